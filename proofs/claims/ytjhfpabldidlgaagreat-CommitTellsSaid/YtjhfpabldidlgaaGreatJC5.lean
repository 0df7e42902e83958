/- The texts Cg, An, Da, Db, Dc, Gj, Gl, As, Fu, Ah, Aj, At, De, Fv, Go, Df, Ai, Ag, joined. -/
import Derived.Test.YtjhfpabldidlgaaGreatJC4

set_option linter.all false
set_option maxRecDepth 100000
set_option maxHeartbeats 8000000
namespace Go.Proofs.YtjhfpabldidlgaaGreat.AM
open Go Go.RowKit

def dropC (c : Cm) (w : Wl) : Cm × Wl := if (!mayW w || decide (5 ≤ c.phase)) = true then (c, w) else if c.phase ≤ 2 then goneC c w 8 else (allC c w).1

theorem c_commit_Drop (c : Cm) (w : Wl) (ho : CmOk c) : CSpec Tryz.prog 39 [dCm c, dWl w] (.tuple [dCm (dropC c w).1, dWl (dropC c w).2]) := by
  have hr := c_commit_Right w
  have hY : dropC c w = if (!mayW w || decide (5 ≤ c.phase)) = true then (c, w) else if c.phase ≤ 2 then goneC c w 8 else (allC c w).1 := rfl
  generalize dropC c w = y at hY ⊢
  refine CSpec.of_awp envOf_ok hmix Tryz.func39 rfl (fun args w => Tryz.call39 args w) (by simp [Tryz.f39]) ?_
  simp only [Tryz.f39]
  simp (maxSteps := 2000000) -implicitDefEqProofs only [zz, zE, evop, ev, tget, V.isUndef, initT, V.cells, ↓reduceIte]
  unfold dCm cmC dWl
  unfold dWl at hr
  simp (maxSteps := 2000000) -implicitDefEqProofs only [zz, zE, evop, ev, tget, tput, ok, V.isUndef, Ch.on, calleeOf, withArgs, hget, hput, V.cells, ↓reduceIte, reduceCtorEq, Nat.reduceLT, Nat.reduceEqDiff, Nat.reduceAdd, Nat.reduceLeDiff]
  refine acall_flat' (hr) rfl ?_
  try simp (maxSteps := 2000000) -implicitDefEqProofs only [zz, zE, evop, ev, ofVal, tget, tput, ok, V.isUndef, intBin, guardOf, Ch.on, calleeOf, withArgs, told, hget, structAt, Blk.width, ↓reduceIte, reduceCtorEq, Nat.reduceLT, Nat.reduceEqDiff, Nat.reduceAdd, Nat.reduceLeDiff, nilTest]
  have fin : (!mayW w || decide (5 ≤ c.phase)) = true → y = (c, w) := fun h => by rw [hY, if_pos h]
  cases h0 : mayW w with
  | false =>
    obtain rfl := fin (by simp [h0])
    simp (maxSteps := 2000000) -implicitDefEqProofs only [zz, ↓reduceIte]
    refine wdraw_weak (Weak.sealed (T' := [(2, .d (.imm (dCm c) 0)), (3, .d (.imm (dWl w) 0)), (4, .ptr 2 0 0), (5, .ptr 3 0 0)]) [0, 1] (by simp [tget, sealF, xport, xports, tids, tidss, hget, dCm, cmC, dWl])) [⟨[], false, [19], [], false⟩, ⟨[], false, [18, 19], [0], true⟩, ⟨[0], true, [19], [], false⟩, ⟨[0, 1, 2], true, [], [], false⟩] (by decide) ?_
    simp only [sealH, AM.freeze, hput, hget, Blk.ice, List.map_cons, List.map_nil, sealB, sealF, List.mem_cons, dCm, cmC, dWl]
    simp (maxSteps := 2000000) -implicitDefEqProofs only [zz, zE, evop, ev, tget, tput, ok, Ch.on, xport, xports, hget, hput, V.cells, D.cells, V.one, loadD, splice, resOf, resV, resVs, ↓reduceIte, Nat.reduceLT, Nat.reduceEqDiff, Nat.reduceAdd, Nat.reduceLeDiff]
  | true =>
  have hm2 := h0
  simp only [mayW, Bool.and_eq_true, decide_eq_true_eq] at hm2
  have htl := tableR_len hm2.1.1.2
  by_cases p5 : c.phase ≥ 5
  · obtain rfl := fin (by simp [p5])
    simp (maxSteps := 2000000) -implicitDefEqProofs only [zz, ↓reduceIte, p5]
    refine wdraw_weak (Weak.sealed (T' := [(2, .d (.imm (dCm c) 0)), (3, .d (.imm (dWl w) 0)), (4, .ptr 2 0 0), (5, .ptr 3 0 0)]) [0, 1] (by simp [tget, sealF, xport, xports, tids, tidss, hget, dCm, cmC, dWl])) [⟨[], false, [19], [], false⟩, ⟨[], false, [18, 19], [0], true⟩, ⟨[0], true, [19], [], false⟩, ⟨[0, 1, 2], true, [], [], false⟩] (by decide) ?_
    simp only [sealH, AM.freeze, hput, hget, Blk.ice, List.map_cons, List.map_nil, sealB, sealF, List.mem_cons, dCm, cmC, dWl]
    simp (maxSteps := 2000000) -implicitDefEqProofs only [zz, zE, evop, ev, tget, tput, ok, Ch.on, xport, xports, hget, hput, V.cells, D.cells, V.one, loadD, splice, resOf, resV, resVs, ↓reduceIte, Nat.reduceLT, Nat.reduceEqDiff, Nat.reduceAdd, Nat.reduceLeDiff]
  rw [if_neg (by simp [h0]; omega)] at hY
  by_cases p2 : c.phase ≤ 2
  · rw [if_pos p2] at hY
    have hg := c_gone c w 8 (by omega)
    rw [← hY] at hg
    unfold dCm cmC dWl at hg
    simp (maxSteps := 2000000) -implicitDefEqProofs only [zz, ↓reduceIte, p5, p2]
    refine acall_ice' (hg) ?_
    try simp (maxSteps := 2000000) -implicitDefEqProofs only [zz, zE, evop, ev, tget, tput, ok, Ch.on, xport, xports, tids, tidss, hget, hput, freeze, V.cells, V.one, splice, resOf, resV, resVs, ↓reduceIte, Nat.reduceLT, Nat.reduceEqDiff, Nat.reduceAdd, Nat.reduceLeDiff]
  · rw [if_neg p2] at hY
    have hg := c_commit_All c w ho
    rw [← hY] at hg
    generalize (allC c w).2 = er at hg
    unfold dCm cmC dWl at hg
    simp (maxSteps := 2000000) -implicitDefEqProofs only [zz, ↓reduceIte, p5, p2]
    refine acall_ice' (hg) ?_
    try simp (maxSteps := 2000000) -implicitDefEqProofs only [zz, zE, evop, ev, tget, tput, ok, V.isUndef, Ch.on, tids, tidss, hget, hput, freeze, V.cells, V.one, splice, ↓reduceIte, Nat.reduceLT, Nat.reduceEqDiff, Nat.reduceAdd, Nat.reduceLeDiff]
    trace_state
    refine wdraw_weak (Weak.sealed (T' := [(6, .d (.imm (dCm y.1) 0)), (7, .d (.imm (dWl y.2) 0)), (4, .ptr 2 0 0), (5, .ptr 3 0 0)]) [4, 5] (by simp [tget, sealF, xport, xports, tids, tidss, hget, dCm, cmC, dWl])) [⟨[], false, [37], [], false⟩, ⟨[], false, [36, 37], [0], true⟩, ⟨[0], true, [37], [], false⟩, ⟨[0, 1, 2], true, [], [], false⟩] (by decide) ?_
    simp only [sealH, AM.freeze, hput, hget, Blk.ice, List.map_cons, List.map_nil, sealB, sealF, List.mem_cons, dCm, cmC, dWl]
    simp (maxSteps := 2000000) -implicitDefEqProofs only [zz, zE, evop, ev, tget, tput, ok, Ch.on, xport, xports, hget, hput, V.cells, D.cells, V.one, loadD, splice, resOf, resV, resVs, ↓reduceIte, Nat.reduceLT, Nat.reduceEqDiff, Nat.reduceAdd, Nat.reduceLeDiff]
end Go.Proofs.YtjhfpabldidlgaaGreat.AM

set_option linter.all false
set_option maxRecDepth 100000
set_option maxHeartbeats 4000000
namespace Go.Proofs.YtjhfpabldidlgaaGreat.AM
open Go Go.RowKit

theorem c_r03_Numbers (a b : List Int) (ha : a.length ≤ 1000000) (hb : b.length ≤ 1000000) : CSpec Tryz.prog 49 [.vec (a.map dI), .vec (b.map dI)] (.bool (decide (a = b))) := by
  refine CSpec.of_awp envOf_ok hmix Tryz.func49 rfl (fun args w => Tryz.call49 args w) (by simp [Tryz.f49]) ?_
  simp only [Tryz.f49]
  simp (maxSteps := 2000000) -implicitDefEqProofs only [zz, zE, evop, ev, ofVal, tget, tput, ok, V.isUndef, intBin, initT, Ch.on, told, xport, sliceOf, lenOf, resOf, resV, resVs, ↓reduceIte, reduceCtorEq, Nat.reduceLT, Nat.reduceEqDiff, nilTest]
  by_cases hlen : a.length = b.length
  case neg =>
    have e : ((a.length : Int) != (b.length : Int)) = true := by simp; omega
    have : a ≠ b := fun e => hlen (by rw [e])
    simp (maxSteps := 2000000) -implicitDefEqProofs only [↓reduceIte, e]
    simp [this]
  have e : ((a.length : Int) != (b.length : Int)) = false := by simp; omega
  simp (maxSteps := 2000000) -implicitDefEqProofs only [zz, ↓reduceIte, e]
  refine wloop_ind (σ := Nat) (fun i => a.length - i) (fun i => [(5, .d (.int .i64 i)), (0, .d (.vec (a.map dI))), (1, .d (.vec (b.map dI)))]) (fun _ => []) (fun i => i ≤ a.length ∧ ∀ j < i, a[j]? = b[j]?) 0 ⟨Nat.zero_le _, fun j hj => by omega⟩ (Weak.sub (by simp [tget])) ?_
  rintro i ⟨hi, hI⟩
  rcases Nat.lt_or_ge i a.length with hlt | hge
  · have hx : a[i]? = some a[i] := List.getElem?_eq_getElem hlt
    have hy : b[i]? = some b[i] := List.getElem?_eq_getElem (by omega)
    have h' : ((i : Int) < (a.length : Int)) := by omega
    have hw : IntKind.i64.wrap ((i : Int) + 1) = ((i + 1 : Nat) : Int) := by rw [wrap_in (by omega)]; omega
    simp (maxSteps := 2000000) -implicitDefEqProofs only [zz, zE, evop, ev, tget, tput, ok, V.isUndef, intBin, Ch.on, told, sliceOf, lenOf, ↓reduceIte, reduceCtorEq, Nat.reduceLT, Nat.reduceEqDiff, nilTest, h']
    refine wdraw_plan [⟨[], false, [18, 21, 22, 23, 24], [], false⟩, ⟨[], false, [17, 21, 22, 23, 24], [0], false⟩, ⟨[0, 1], false, [21, 22, 23, 24], [], false⟩, ⟨[0, 1, 2], false, [21, 22, 23, 24], [], false⟩, ⟨[], false, [17, 18, 19, 20, 22], [0, 1, 2, 3], false⟩, ⟨[], false, [17, 18, 19, 20, 21], [0, 1, 2, 3, 4], false⟩, ⟨[4, 5], false, [17, 18, 19, 20], [0, 1, 2, 3], false⟩, ⟨[4, 5, 6], false, [17, 18, 19, 20], [0, 1, 2, 3], false⟩, ⟨[0, 1, 2, 3, 4, 5, 6, 7], true, [], [], false⟩] (by decide) ?_
    simp (maxSteps := 2000000) -implicitDefEqProofs only [zz, zE, evop, ev, ofVal, tget, tput, ok, V.isUndef, intBin, Ch.on, told, xport, hput, V.cells, D.cells, V.isAgg, loadD, Blk.width, resOf, resV, resVs, ↓reduceIte, reduceCtorEq, Nat.reduceLT, Nat.reduceEqDiff, Nat.reduceAdd, Nat.reduceLeDiff, nilTest, dI, List.getElem?_map, hx, hy, Option.map_some, Int.natCast_nonneg]
    split
    · rename_i hne
      have : a ≠ b := fun e => by subst e; simp at hne
      simp [this]
    · rename_i heq
      have heq' : a[i] = b[i] := by
        simp at heq
        exact heq
      refine ⟨i + 1, ⟨hlt, fun j hj => ?_⟩, by omega, Weak.trims 0 rfl (by simp [tget, hw, V.lower]) (by simp)⟩
      by_cases e : j = i
      · subst e; rw [hx, hy, heq']
      · exact hI j (by omega)
  · have h' : ¬ ((i : Int) < (a.length : Int)) := by omega
    simp (maxSteps := 2000000) -implicitDefEqProofs only [zz, zE, evop, ev, ofVal, tget, tput, ok, V.isUndef, intBin, Ch.on, told, xport, sliceOf, lenOf, resOf, resV, resVs, ↓reduceIte, reduceCtorEq, Nat.reduceLT, Nat.reduceEqDiff, nilTest, h']
    have : a = b := List.ext_getElem? (fun j => by
      rcases Nat.lt_or_ge j a.length with h | h
      · exact hI j (by omega)
      · rw [List.getElem?_eq_none h, List.getElem?_eq_none (by omega)])
    simp [this]
theorem c_r05_Same (a b : List Rd) (ha : a.length ≤ 1000000) (hb : b.length ≤ 1000000) : CSpec Tryz.prog 59 [.vec (a.map dRd), .vec (b.map dRd)] (.bool (decide (a = b))) := by
  refine CSpec.of_awp envOf_ok hmix Tryz.func59 rfl (fun args w => Tryz.call59 args w) (by simp [Tryz.f59]) ?_
  simp only [Tryz.f59]
  simp (maxSteps := 2000000) -implicitDefEqProofs only [zz, zE, evop, ev, ofVal, tget, tput, ok, V.isUndef, intBin, initT, Ch.on, told, xport, sliceOf, lenOf, resOf, resV, resVs, ↓reduceIte, reduceCtorEq, Nat.reduceLT, Nat.reduceEqDiff, nilTest]
  by_cases hlen : a.length = b.length
  case neg =>
    have e : ((a.length : Int) != (b.length : Int)) = true := by simp; omega
    have : a ≠ b := fun e => hlen (by rw [e])
    simp (maxSteps := 2000000) -implicitDefEqProofs only [↓reduceIte, e]
    simp [this]
  have e : ((a.length : Int) != (b.length : Int)) = false := by simp; omega
  simp (maxSteps := 2000000) -implicitDefEqProofs only [zz, ↓reduceIte, e]
  refine wloop_ind (σ := Nat) (fun i => a.length - i) (fun i => [(5, .d (.int .i64 i)), (0, .d (.vec (a.map dRd))), (1, .d (.vec (b.map dRd)))]) (fun _ => []) (fun i => i ≤ a.length ∧ ∀ j < i, a[j]? = b[j]?) 0 ⟨Nat.zero_le _, fun j hj => by omega⟩ (Weak.sub (by simp [tget])) ?_
  rintro i ⟨hi, hI⟩
  rcases Nat.lt_or_ge i a.length with hlt | hge
  · have hx : a[i]? = some a[i] := List.getElem?_eq_getElem hlt
    have hy : b[i]? = some b[i] := List.getElem?_eq_getElem (by omega)
    have h' : ((i : Int) < (a.length : Int)) := by omega
    have hw : IntKind.i64.wrap ((i : Int) + 1) = ((i + 1 : Nat) : Int) := by rw [wrap_in (by omega)]; omega
    simp (maxSteps := 2000000) -implicitDefEqProofs only [zz, zE, evop, ev, tget, tput, ok, V.isUndef, intBin, Ch.on, told, sliceOf, lenOf, ↓reduceIte, reduceCtorEq, Nat.reduceLT, Nat.reduceEqDiff, nilTest, h']
    refine wdraw_plan [⟨[], false, [18, 21, 22, 23, 24], [], false⟩, ⟨[], false, [17, 21, 22, 23, 24], [0], false⟩, ⟨[0, 1], false, [21, 22, 23, 24], [], false⟩, ⟨[0, 1, 2], false, [21, 22, 23, 24], [], false⟩, ⟨[], false, [17, 18, 19, 20, 22], [0, 1, 2, 3], false⟩, ⟨[], false, [17, 18, 19, 20, 21], [0, 1, 2, 3, 4], false⟩, ⟨[4, 5], false, [17, 18, 19, 20], [0, 1, 2, 3], false⟩, ⟨[4, 5, 6], false, [17, 18, 19, 20], [0, 1, 2, 3], false⟩, ⟨[0, 1, 2, 3, 4, 5, 6, 7], true, [], [], false⟩] (by decide) ?_
    simp (maxSteps := 2000000) -implicitDefEqProofs only [zz, zE, evop, ev, ofVal, tget, tput, ok, V.isUndef, intBin, Ch.on, told, xport, hput, V.cells, D.cells, V.isAgg, V.clo, clos, loadD, eqCells, D.scalarEq, Blk.width, resOf, resV, resVs, ↓reduceIte, reduceCtorEq, Nat.reduceLT, Nat.reduceEqDiff, Nat.reduceAdd, Nat.reduceLeDiff, nilTest, dRd, List.getElem?_map, hx, hy, Option.map_some, Int.natCast_nonneg]
    split
    · rename_i hne
      have : a ≠ b := fun e => by subst e; simp at hne
      simp [this]
    · rename_i heq
      have heq' : a[i] = b[i] := by
        simp at heq
        exact Prod.ext heq.1 (Prod.ext heq.2.1 heq.2.2)
      refine ⟨i + 1, ⟨hlt, fun j hj => ?_⟩, by omega, Weak.trims 0 rfl (by simp [tget, hw, V.lower]) (by simp)⟩
      by_cases e : j = i
      · subst e; rw [hx, hy, heq']
      · exact hI j (by omega)
  · have h' : ¬ ((i : Int) < (a.length : Int)) := by omega
    simp (maxSteps := 2000000) -implicitDefEqProofs only [zz, zE, evop, ev, ofVal, tget, tput, ok, V.isUndef, intBin, Ch.on, told, xport, sliceOf, lenOf, resOf, resV, resVs, ↓reduceIte, reduceCtorEq, Nat.reduceLT, Nat.reduceEqDiff, nilTest, h']
    have : a = b := List.ext_getElem? (fun j => by
      rcases Nat.lt_or_ge j a.length with h | h
      · exact hI j (by omega)
      · rw [List.getElem?_eq_none h, List.getElem?_eq_none (by omega)])
    simp [this]

theorem c_r03_Who (n : Int) : CSpec Tryz.prog 55 [.int .i64 n] (.bool (decide (1 ≤ n) && decide (n ≤ 8))) := by
  refine CSpec.of_awp envOf_ok hmix Tryz.func55 rfl (fun args w => Tryz.call55 args w) (by simp [Tryz.f55]) ?_
  simp only [Tryz.f55]
  simp (maxSteps := 2000000) -implicitDefEqProofs only [zz, evop, ev, ofVal, tget, tput, ok, V.isUndef, intBin, guardOf, initT, Ch.on, xport, resOf, resV, resVs, ↓reduceIte, reduceCtorEq, Nat.reduceLT, Nat.reduceEqDiff, nilTest]
  (repeat' split) <;> (first | rfl | (simp_all [IntKind.wrap_i64]; done) | (simp [IntKind.wrap_i64] at * <;> omega) | (simp_all [IntKind.wrap_i64] <;> omega) | (congr 2; rw [Bool.eq_iff_iff]; simp_all; omega) | grind)

theorem c_r03_Right (l : List (Int × Int)) (hl : l.length ≤ 1000000) : CSpec Tryz.prog 66 [.vec (l.map dW)] (.bool (tableR l)) := by
  refine CSpec.of_awp envOf_ok hmix Tryz.func66 rfl (fun args w => Tryz.call66 args w) (by simp [Tryz.f66]) ?_
  simp only [Tryz.f66]
  simp (maxSteps := 2000000) -implicitDefEqProofs only [zz, evop, ev, ofVal, tput, ok, V.isUndef, initT, Ch.on, ↓reduceIte, Nat.reduceLT]
  refine wloop_ind (σ := Nat) (fun i => l.length - i) (fun i => [(3, .d (.int .i64 i)), (0, .d (.vec (l.map dW)))]) (fun _ => []) (fun i => i ≤ l.length ∧ ∀ j < i, ∀ x, l[j]? = some x → wrongR x = false) 0 ⟨Nat.zero_le _, fun j hj => by omega⟩ (Weak.sub (by simp [tget])) ?_
  rintro i ⟨hi, hb⟩
  rcases Nat.lt_or_ge i l.length with hlt | hge
  · have hx : l[i]? = some l[i] := List.getElem?_eq_getElem hlt
    have h' : ((i : Int) < (l.length : Int)) := by omega
    have hw : IntKind.i64.wrap ((i : Int) + 1) = ((i + 1 : Nat) : Int) := by rw [wrap_in (by omega)]; omega
    have bad : wrongR l[i] = true → tableR l = false := fun hc => by
      have : l.any wrongR = true := List.any_eq_true.2 ⟨_, List.getElem_mem hlt, hc⟩
      simp [tableR, this]
    have good : wrongR l[i] = false → ∀ j < i + 1, ∀ x, l[j]? = some x → wrongR x = false := fun hc j hj x hxj => by
      by_cases e : j = i
      · subst e; rw [hx] at hxj; cases hxj; exact hc
      · exact hb j (by omega) x hxj
    simp (maxSteps := 2000000) -implicitDefEqProofs only [zz, zE, evop, ev, ofVal, tget, tput, ok, V.isUndef, intBin, guardOf, Ch.on, told, xport, D.cells, loadD, structAt, sliceOf, lenOf, resOf, resV, resVs, ↓reduceIte, reduceCtorEq, Nat.reduceLT, Nat.reduceEqDiff, Nat.reduceAdd, nilTest, dW, h', List.getElem?_map, hx, Option.map_some, Int.natCast_nonneg]
    by_cases h1 : l[i].1 < 0
    · simp (maxSteps := 2000000) -implicitDefEqProofs only [zz, ↓reduceIte, h1]
      rw [bad (by simp [wrongR, h1])]
    by_cases h2 : l[i].1 > 2147483647
    · simp (maxSteps := 2000000) -implicitDefEqProofs only [zz, ↓reduceIte, h1, h2]
      have h2' : 2147483647 < l[i].1 := h2
      rw [bad (by simp [wrongR, h2'])]
    by_cases h3 : l[i].2 < 0
    · simp (maxSteps := 2000000) -implicitDefEqProofs only [zz, ↓reduceIte, h1, h2, h3]
      rw [bad (by simp [wrongR, h3])]
    by_cases h4 : l[i].2 > 8
    · simp (maxSteps := 2000000) -implicitDefEqProofs only [zz, ↓reduceIte, h1, h2, h3, h4]
      have h4' : 8 < l[i].2 := h4
      rw [bad (by simp [wrongR, h4'])]
    simp (maxSteps := 2000000) -implicitDefEqProofs only [zz, ↓reduceIte, h1, h2, h3, h4, hw]
    refine ⟨i + 1, ⟨hlt, good ?_⟩, by omega, Weak.trims 0 rfl (by simp [tget, V.lower]) (by simp)⟩
    have g2 : ¬ 2147483647 < l[i].1 := h2
    have g4 : ¬ 8 < l[i].2 := h4
    simp only [wrongR, decide_eq_false h1, decide_eq_false g2, decide_eq_false h3, decide_eq_false g4, Bool.or_false]
  · have h' : ¬ ((i : Int) < (l.length : Int)) := by omega
    have hany : l.any wrongR = false := by
      rw [List.any_eq_false]
      intro x hx
      obtain ⟨j, hj, rfl⟩ := List.getElem_of_mem hx
      have := hb j (by omega) _ (List.getElem?_eq_getElem hj)
      simp [this]
    by_cases h0 : (l.length : Int) > 0
    · simp (maxSteps := 2000000) -implicitDefEqProofs only [zz, zE, evop, ev, ofVal, tget, tput, ok, V.isUndef, intBin, guardOf, Ch.on, told, xport, sliceOf, lenOf, resOf, resV, resVs, ↓reduceIte, reduceCtorEq, Nat.reduceLT, Nat.reduceEqDiff, nilTest, h', h0]
      congr 2
      rw [Bool.eq_iff_iff]; simp [tableR, hany]; omega
    · simp (maxSteps := 2000000) -implicitDefEqProofs only [zz, zE, evop, ev, ofVal, tget, tput, ok, V.isUndef, intBin, guardOf, Ch.on, told, xport, sliceOf, lenOf, resOf, resV, resVs, ↓reduceIte, reduceCtorEq, Nat.reduceLT, Nat.reduceEqDiff, nilTest, h', h0]
      congr 2
      rw [Bool.eq_iff_iff]; simp [tableR, hany]; omega

end Go.Proofs.YtjhfpabldidlgaaGreat.AM

set_option linter.all false
set_option maxRecDepth 100000
set_option maxHeartbeats 8000000
namespace Go.Proofs.YtjhfpabldidlgaaGreat.AM
open Go Go.RowKit

theorem c_r03_Same (a b : List (Int × Int)) (ha : a.length ≤ 1000000) (hb : b.length ≤ 1000000) : CSpec Tryz.prog 44 [.vec (a.map dW), .vec (b.map dW)] (.bool (decide (a = b))) := by
  refine CSpec.of_awp envOf_ok hmix Tryz.func44 rfl (fun args w => Tryz.call44 args w) (by simp [Tryz.f44]) ?_
  simp only [Tryz.f44]
  simp (maxSteps := 2000000) -implicitDefEqProofs only [zz, zE, evop, ev, ofVal, tget, tput, ok, V.isUndef, intBin, initT, Ch.on, told, xport, sliceOf, lenOf, resOf, resV, resVs, ↓reduceIte, reduceCtorEq, Nat.reduceLT, Nat.reduceEqDiff, nilTest]
  by_cases hlen : a.length = b.length
  case neg =>
    have e : ((a.length : Int) != (b.length : Int)) = true := by simp; omega
    have : a ≠ b := fun e => hlen (by rw [e])
    simp (maxSteps := 2000000) -implicitDefEqProofs only [↓reduceIte, e]
    simp [this]
  have e : ((a.length : Int) != (b.length : Int)) = false := by simp; omega
  simp (maxSteps := 2000000) -implicitDefEqProofs only [zz, ↓reduceIte, e]
  refine wloop_ind (σ := Nat) (fun i => a.length - i) (fun i => [(5, .d (.int .i64 i)), (0, .d (.vec (a.map dW))), (1, .d (.vec (b.map dW)))]) (fun _ => []) (fun i => i ≤ a.length ∧ ∀ j < i, a[j]? = b[j]?) 0 ⟨Nat.zero_le _, fun j hj => by omega⟩ (Weak.sub (by simp [tget])) ?_
  rintro i ⟨hi, hI⟩
  rcases Nat.lt_or_ge i a.length with hlt | hge
  · have hx : a[i]? = some a[i] := List.getElem?_eq_getElem hlt
    have hy : b[i]? = some b[i] := List.getElem?_eq_getElem (by omega)
    have h' : ((i : Int) < (a.length : Int)) := by omega
    have hw : IntKind.i64.wrap ((i : Int) + 1) = ((i + 1 : Nat) : Int) := by rw [wrap_in (by omega)]; omega
    simp (maxSteps := 2000000) -implicitDefEqProofs only [zz, zE, evop, ev, tget, tput, ok, V.isUndef, intBin, Ch.on, told, sliceOf, lenOf, ↓reduceIte, reduceCtorEq, Nat.reduceLT, Nat.reduceEqDiff, nilTest, h']
    refine wdraw_plan [⟨[], false, [18, 21, 22, 23, 24], [], false⟩, ⟨[], false, [17, 21, 22, 23, 24], [0], false⟩, ⟨[0, 1], false, [21, 22, 23, 24], [], false⟩, ⟨[0, 1, 2], false, [21, 22, 23, 24], [], false⟩, ⟨[], false, [17, 18, 19, 20, 22], [0, 1, 2, 3], false⟩, ⟨[], false, [17, 18, 19, 20, 21], [0, 1, 2, 3, 4], false⟩, ⟨[4, 5], false, [17, 18, 19, 20], [0, 1, 2, 3], false⟩, ⟨[4, 5, 6], false, [17, 18, 19, 20], [0, 1, 2, 3], false⟩, ⟨[0, 1, 2, 3, 4, 5, 6, 7], true, [], [], false⟩] (by decide) ?_
    simp (maxSteps := 2000000) -implicitDefEqProofs only [zz, zE, evop, ev, ofVal, tget, tput, ok, V.isUndef, intBin, Ch.on, told, xport, hput, V.cells, D.cells, V.isAgg, V.clo, clos, loadD, eqCells, D.scalarEq, Blk.width, resOf, resV, resVs, ↓reduceIte, reduceCtorEq, Nat.reduceLT, Nat.reduceEqDiff, Nat.reduceAdd, Nat.reduceLeDiff, nilTest, dW, List.getElem?_map, hx, hy, Option.map_some, Int.natCast_nonneg]
    split
    · rename_i hne
      have : a ≠ b := fun e => by subst e; simp at hne
      simp [this]
    · rename_i heq
      have heq' : a[i] = b[i] := by
        simp at heq
        exact Prod.ext heq.1 heq.2
      refine ⟨i + 1, ⟨hlt, fun j hj => ?_⟩, by omega, Weak.trims 0 rfl (by simp [tget, hw, V.lower]) (by simp)⟩
      by_cases e : j = i
      · subst e; rw [hx, hy, heq']
      · exact hI j (by omega)
  · have h' : ¬ ((i : Int) < (a.length : Int)) := by omega
    simp (maxSteps := 2000000) -implicitDefEqProofs only [zz, zE, evop, ev, ofVal, tget, tput, ok, V.isUndef, intBin, Ch.on, told, xport, sliceOf, lenOf, resOf, resV, resVs, ↓reduceIte, reduceCtorEq, Nat.reduceLT, Nat.reduceEqDiff, nilTest, h']
    have : a = b := List.ext_getElem? (fun j => by
      rcases Nat.lt_or_ge j a.length with h | h
      · exact hI j (by omega)
      · rw [List.getElem?_eq_none h, List.getElem?_eq_none (by omega)])
    simp [this]

theorem c_r03_in (l : List Int) (n : Int) (hl : l.length ≤ 1000000) : CSpec Tryz.prog 146 [.vec (l.map dI), .int .i64 n] (.bool (decide (n ∈ l))) := by
  refine CSpec.of_awp envOf_ok hmix Tryz.func146 rfl (fun args w => Tryz.call146 args w) (by simp [Tryz.f146]) ?_
  simp only [Tryz.f146]
  simp (maxSteps := 2000000) -implicitDefEqProofs only [zz, evop, ev, ofVal, tput, ok, V.isUndef, initT, Ch.on, ↓reduceIte, Nat.reduceLT]
  refine wloop_count l.length (fun i => [(5, .d (.int .i64 i)), (0, .d (.vec (l.map dI))), (1, .d (.int .i64 n))]) (fun _ => []) (fun i => ∀ j < i, ∀ x, l[j]? = some x → x ≠ n) (fun j hj => by omega) (Weak.sub (by simp [tget])) (fun i hi hI => ?_) (fun hI => ?_)
  · have hx : l[i]? = some l[i] := List.getElem?_eq_getElem hi
    have h' : ((i : Int) < (l.length : Int)) := by omega
    have hw : IntKind.i64.wrap ((i : Int) + 1) = ((i + 1 : Nat) : Int) := by rw [wrap_in (by omega)]; omega
    have hm : l[i] ∈ l := List.getElem_mem hi
    generalize l[i] = x at hx hm
    simp (maxSteps := 2000000) -implicitDefEqProofs only [zz, zE, evop, ev, ofVal, tget, tput, ok, V.isUndef, intBin, Ch.on, told, xport, D.cells, loadD, sliceOf, lenOf, resOf, resV, resVs, ↓reduceIte, reduceCtorEq, Nat.reduceLT, Nat.reduceEqDiff, nilTest, dI, h', List.getElem?_map, hx, Option.map_some, Int.natCast_nonneg]
    by_cases e : x = n
    · have eb : (x == n) = true := by simpa using e
      subst e
      simp (maxSteps := 2000000) -implicitDefEqProofs only [zz, ↓reduceIte]
      simp [hm]
    · have eb : (x == n) = false := by simpa using e
      simp (maxSteps := 2000000) -implicitDefEqProofs only [zz, ↓reduceIte, eb, hw]
      refine ⟨fun j hj z hz => ?_, Weak.trims 0 rfl (by simp [tget, V.lower]) (by simp)⟩
      by_cases g : j = i
      · subst g; rw [hx] at hz; cases hz; exact e
      · exact hI j (by omega) z hz
  · have h' : ¬ ((l.length : Int) < (l.length : Int)) := by omega
    have hn : ¬ n ∈ l := fun h => by
      obtain ⟨k, hk, e⟩ := List.getElem_of_mem h
      exact hI k hk _ (List.getElem?_eq_getElem hk) e
    simp (maxSteps := 2000000) -implicitDefEqProofs only [zz, zE, evop, ev, ofVal, tget, tput, ok, V.isUndef, intBin, Ch.on, told, xport, sliceOf, lenOf, resOf, resV, resVs, ↓reduceIte, reduceCtorEq, Nat.reduceLT, Nat.reduceEqDiff, nilTest, h']
    simp [hn]

theorem c_r03_Cells (l : List Int) (hl : l.length ≤ 1000000) : CSpec Tryz.prog 144 [.vec (l.map dI)] (.bool (!(l.any negI))) := by
  refine CSpec.of_awp envOf_ok hmix Tryz.func144 rfl (fun args w => Tryz.call144 args w) (by simp [Tryz.f144]) ?_
  simp only [Tryz.f144]
  simp (maxSteps := 2000000) -implicitDefEqProofs only [zz, evop, ev, ofVal, tput, ok, V.isUndef, initT, Ch.on, ↓reduceIte, Nat.reduceLT]
  refine wloop_count l.length (fun i => [(3, .d (.int .i64 i)), (0, .d (.vec (l.map dI)))]) (fun _ => []) (fun i => ∀ j < i, ∀ x, l[j]? = some x → negI x = false) (fun j hj => by omega) (Weak.sub (by simp [tget])) (fun i hi hI => ?_) (fun hI => ?_)
  · have hx : l[i]? = some l[i] := List.getElem?_eq_getElem hi
    have h' : ((i : Int) < (l.length : Int)) := by omega
    have hw : IntKind.i64.wrap ((i : Int) + 1) = ((i + 1 : Nat) : Int) := by rw [wrap_in (by omega)]; omega
    have hm : l[i] ∈ l := List.getElem_mem hi
    generalize l[i] = x at hx hm
    simp (maxSteps := 2000000) -implicitDefEqProofs only [zz, zE, evop, ev, ofVal, tget, tput, ok, V.isUndef, intBin, Ch.on, told, xport, D.cells, loadD, sliceOf, lenOf, resOf, resV, resVs, ↓reduceIte, reduceCtorEq, Nat.reduceLT, Nat.reduceEqDiff, nilTest, dI, h', List.getElem?_map, hx, Option.map_some, Int.natCast_nonneg]
    by_cases e : x < 0
    · have ha : l.any negI = true := List.any_eq_true.2 ⟨x, hm, by simp [negI, e]⟩
      simp (maxSteps := 2000000) -implicitDefEqProofs only [↓reduceIte, e]
      simp [ha]
    · simp (maxSteps := 2000000) -implicitDefEqProofs only [zz, ↓reduceIte, e, hw]
      refine ⟨fun j hj z hz => ?_, Weak.trims 0 rfl (by simp [tget, V.lower]) (by simp)⟩
      by_cases g : j = i
      · subst g; rw [hx] at hz; cases hz; simp [negI, e]
      · exact hI j (by omega) z hz
  · have h' : ¬ ((l.length : Int) < (l.length : Int)) := by omega
    have ha : l.any negI = false := by
      rw [List.any_eq_false]
      intro x hx
      obtain ⟨k, hk, rfl⟩ := List.getElem_of_mem hx
      simp [hI k hk _ (List.getElem?_eq_getElem hk)]
    simp (maxSteps := 2000000) -implicitDefEqProofs only [zz, zE, evop, ev, ofVal, tget, tput, ok, V.isUndef, intBin, Ch.on, told, xport, sliceOf, lenOf, resOf, resV, resVs, ↓reduceIte, reduceCtorEq, Nat.reduceLT, Nat.reduceEqDiff, nilTest, h']
    simp [ha]

def ofN (t : List (Int × Int)) (cells : List Int) (k : Nat) : List Int := ((List.range k).filter fun (i : Nat) => decide ((i : Int) ∈ placesL t cells)).map fun (i : Nat) => (i : Int)
theorem ofN_succ (t : List (Int × Int)) (cells : List Int) (k : Nat) : ofN t cells (k + 1) = if (k : Int) ∈ placesL t cells then ofN t cells k ++ [(k : Int)] else ofN t cells k := by
  unfold ofN
  rw [List.range_succ, List.filter_append, List.map_append]
  by_cases h : (k : Int) ∈ placesL t cells <;> simp [h]
theorem ofN_len (t : List (Int × Int)) (cells : List Int) (k : Nat) : (ofN t cells k).length ≤ k := by
  unfold ofN; rw [List.length_map]; exact Nat.le_trans (List.length_filter_le ..) (by simp)
theorem ofN_mem {t : List (Int × Int)} {cells : List Int} {k : Nat} {i : Int} : i ∈ ofN t cells k ↔ 0 ≤ i ∧ i < k ∧ i ∈ placesL t cells := by
  unfold ofN
  simp only [List.mem_map, List.mem_filter, List.mem_range, decide_eq_true_eq]
  constructor
  · rintro ⟨a, ⟨h1, h2⟩, rfl⟩; exact ⟨by omega, by omega, h2⟩
  · rintro ⟨h1, h2, h3⟩
    refine ⟨i.toNat, ⟨by omega, ?_⟩, by omega⟩
    have : ((i.toNat : Nat) : Int) = i := by omega
    rw [this]; exact h3
theorem placesL_snoc (t : List (Int × Int)) (cells : List Int) {i : Nat} (hi : i < cells.length) : placesL t (cells.take (i + 1)) = placesL t (cells.take i) ++ [cells[i].tmod t.length] := by
  unfold placesL; rw [List.take_succ, List.getElem?_eq_getElem hi, List.map_append]; rfl

theorem c_r03_Of (t : List (Int × Int)) (cells : List Int) (h1 : tableR t = true) (h2 : cells.any negI = false) (hc : cells.length ≤ 1000000) : CSpec Tryz.prog 145 [.vec (t.map dW), .vec (cells.map dI)] (.vec ((ofN t cells t.length).map dI)) := by
  have htl := tableR_len h1
  have hr := c_r03_Right t (by omega)
  have hcs := c_r03_Cells cells hc
  rw [h1] at hr
  rw [h2] at hcs
  have hne : (t.length : Int) ≠ 0 := by omega
  have hpl : (placesL t cells).length = cells.length := by simp [placesL]
  refine CSpec.of_awp envOf_ok hmix Tryz.func145 rfl (fun args w => Tryz.call145 args w) (by simp [Tryz.f145]) ?_
  simp only [Tryz.f145]
  simp (maxSteps := 2000000) -implicitDefEqProofs only [zz, evop, ev, ofVal, tget, tput, ok, V.isUndef, initT, Ch.on, calleeOf, withArgs, ↓reduceIte, reduceCtorEq, Nat.reduceLT]
  refine acall_flat' (hr) rfl ?_
  try simp (maxSteps := 2000000) -implicitDefEqProofs only [zz, evop, ev, tget, tput, ok, V.isUndef, Ch.on, calleeOf, withArgs, ↓reduceIte, reduceCtorEq, Nat.reduceLT, Nat.reduceEqDiff]
  refine acall_flat' (hcs) rfl ?_
  try simp (maxSteps := 2000000) -implicitDefEqProofs only [zz, evop, ev, ofVal, tget, tput, ok, V.isUndef, guardOf, Ch.on, told, ↓reduceIte, Nat.reduceLT, Nat.reduceEqDiff]
  refine wloop_count cells.length (fun i => [(9, .d (.int .i64 i)), (1, .d (.vec (cells.map dI))), (0, .d (.vec (t.map dW))), (7, .own 0 0 i), (8, .nils)]) (fun i => [.dat false 1 ((placesL t (cells.take i)).map dI)]) (fun _ => True) trivial ?_ (fun i hi _ => ?_) (fun _ => ?_)
  · first
    | exact Weak.pick [7] (by decide) (by simp) rfl (fun q hq => by
        simp only [List.mem_cons, List.not_mem_nil, or_false] at hq
        rcases hq with rfl | rfl | rfl | rfl | rfl <;> first | exact .same _ | exact .nils 0 1 rfl) (fun i hi => by
        match i, hi with
        | 0, _ => first | exact .dat _ _ _ rfl rfl | exact .virt 1 rfl rfl
        | i + 1, hi => exact absurd hi (by simp))
  · have hx : cells[i]? = some cells[i] := List.getElem?_eq_getElem hi
    have h' : ((i : Int) < (cells.length : Int)) := by omega
    have hw : IntKind.i64.wrap ((i : Int) + 1) = ((i + 1 : Nat) : Int) := by rw [wrap_in (by omega)]; omega
    have hT := placesL_snoc t cells hi
    have e6 : List.take i ((placesL t (cells.take i)).map dI) = (placesL t (cells.take i)).map dI := by rw [List.take_of_length_le]; simp [placesL]; omega
    generalize cells[i] = x at hx hT
    simp (maxSteps := 2000000) -implicitDefEqProofs only [zz, zE, evop, ev, ofVal, tget, tput, ok, V.isUndef, intBin, Ch.on, told, hget, hput, V.cells, D.cells, V.one, V.toD, loadD, sliceOf, partsD, elems, lenOf, ↓reduceIte, reduceCtorEq, Nat.reduceLT, Nat.reduceEqDiff, Nat.reduceAdd, Nat.reduceMul, Nat.reduceLeDiff, nilTest, dI, h', List.getElem?_map, hx, Option.map_some, Int.natCast_nonneg, hw]
    refine ⟨hne, ⟨by omega, okEl_I [x.tmod t.length]⟩, ?_⟩
    rw [hT, e6, List.map_append]
    first
    | exact Weak.pick [2] (by decide) (by simp) rfl (fun q hq => by
        simp only [List.mem_cons, List.not_mem_nil, or_false] at hq
        rcases hq with rfl | rfl | rfl | rfl | rfl <;> first | exact .same _ | exact .nils 0 1 rfl) (fun i hi => by
        match i, hi with
        | 0, _ => first | exact .dat _ _ _ rfl rfl | exact .virt 1 rfl rfl
        | i + 1, hi => exact absurd hi (by simp))
    | exact Weak.pick [1] (by decide) (by simp) rfl (fun q hq => by
        simp only [List.mem_cons, List.not_mem_nil, or_false] at hq
        rcases hq with rfl | rfl | rfl | rfl | rfl <;> first | exact .same _ | exact .nils 0 1 rfl) (fun i hi => by
        match i, hi with
        | 0, _ => first | exact .dat _ _ _ rfl rfl | exact .virt 1 rfl rfl
        | i + 1, hi => exact absurd hi (by simp))
    | exact Weak.pick [3] (by decide) (by simp) rfl (fun q hq => by
        simp only [List.mem_cons, List.not_mem_nil, or_false] at hq
        rcases hq with rfl | rfl | rfl | rfl | rfl <;> first | exact .same _ | exact .nils 0 1 rfl) (fun i hi => by
        match i, hi with
        | 0, _ => first | exact .dat _ _ _ rfl rfl | exact .virt 1 rfl rfl
        | i + 1, hi => exact absurd hi (by simp))
  · have h' : ¬ ((cells.length : Int) < (cells.length : Int)) := by omega
    rw [List.take_length]
    simp (maxSteps := 2000000) -implicitDefEqProofs only [zz, zE, evop, ev, ofVal, tget, tput, ok, V.isUndef, intBin, Ch.on, told, sliceOf, lenOf, ↓reduceIte, Nat.reduceLT, Nat.reduceEqDiff, nilTest, h']
    have ef : List.take cells.length ((placesL t cells).map dI) = (placesL t cells).map dI := by rw [List.take_of_length_le]; simp [hpl]
    refine wloop_count t.length (fun i => [(10, .d (.int .i64 i)), (0, .d (.vec (t.map dW))), (7, .d (.vec ((placesL t cells).map dI))), (8, .own 0 0 (ofN t cells i).length)]) (fun i => [.dat false 1 ((ofN t cells i).map dI)]) (fun _ => True) trivial ?_ (fun i hi _ => ?_) (fun _ => ?_)
    · refine Weak.trans' (T2 := [(10, .d (.int .i64 0)), (0, .d (.vec (t.map dW))), (7, .own 0 0 cells.length), (8, .own 1 0 0)]) (H2 := [.dat false 1 ((placesL t cells).map dI), .dat false 1 []]) ?_ (Weak.trans' (Weak.sealed (T' := [(10, .d (.int .i64 0)), (0, .d (.vec (t.map dW))), (7, .d (.vec ((placesL t cells).map dI))), (8, .own 1 0 0)]) [0] (by simp [tget, sealF, hget, ef])) ?_)
      · refine Weak.pick [0, 9] (by decide) (by simp) rfl (fun q hq => ?_) (fun i hi => ?_)
        · simp only [List.mem_cons, List.not_mem_nil, or_false] at hq
          rcases hq with rfl | rfl | rfl | rfl <;> first | exact .same _ | exact .nils 1 1 rfl
        · match i, hi with
          | 0, _ => exact .dat _ _ _ rfl rfl
          | 1, _ => exact .virt 1 rfl rfl
          | i + 2, hi => exact absurd hi (by simp)
      · simp only [sealH, AM.freeze, hput, hget, Blk.ice, List.map_cons, List.map_nil, sealB, sealF]
        first
        | exact Weak.pick [1] (by decide) (by simp) rfl (fun q hq => by
            simp only [List.mem_cons, List.not_mem_nil, or_false] at hq
            rcases hq with rfl | rfl | rfl | rfl <;> first | exact .same _ | exact .nils 0 1 rfl) (fun i hi => by
            match i, hi with
            | 0, _ => first | exact .dat _ _ _ rfl rfl | exact .virt 1 rfl rfl
            | i + 1, hi => exact absurd hi (by simp))
    · have h' : ((i : Int) < (t.length : Int)) := by omega
      have hw : IntKind.i64.wrap ((i : Int) + 1) = ((i + 1 : Nat) : Int) := by rw [wrap_in (by omega)]; omega
      have hs := ofN_succ t cells i
      have hl := ofN_len t cells i
      have hin := c_r03_in (placesL t cells) i (by omega)
      by_cases hq : (i : Int) ∈ placesL t cells
      · have eq : decide ((i : Int) ∈ placesL t cells) = true := by simpa using hq
        rw [if_pos hq] at hs
        rw [eq] at hin
        simp (maxSteps := 2000000) -implicitDefEqProofs only [zz, zE, evop, ev, tget, tput, ok, V.isUndef, intBin, Ch.on, calleeOf, withArgs, told, sliceOf, lenOf, ↓reduceIte, reduceCtorEq, Nat.reduceLT, Nat.reduceEqDiff, nilTest, h']
        refine acall_flat' (hin) rfl ?_
        try simp (maxSteps := 2000000) -implicitDefEqProofs only [zz, zE, evop, ev, ofVal, tget, tput, ok, V.isUndef, intBin, Ch.on, told, hget, hput, V.cells, D.cells, V.one, V.toD, sliceOf, partsD, elems, ↓reduceIte, reduceCtorEq, Nat.reduceLT, Nat.reduceEqDiff, Nat.reduceAdd, Nat.reduceMul, Nat.reduceLeDiff, nilTest]
        try simp (maxSteps := 2000000) -implicitDefEqProofs only [hw]
        refine ⟨⟨by omega, okEl_I [(i : Int)]⟩, ?_⟩
        have e6 : List.take (ofN t cells i).length ((ofN t cells i).map dI) = (ofN t cells i).map dI := by rw [List.take_of_length_le]; simp
        rw [hs, e6, List.length_append, List.map_append]
        first
        | exact Weak.pick [2] (by decide) (by simp) rfl (fun q hq => by
            simp only [List.mem_cons, List.not_mem_nil, or_false] at hq
            rcases hq with rfl | rfl | rfl | rfl <;> first | exact .same _ | exact .nils 0 1 rfl) (fun i hi => by
            match i, hi with
            | 0, _ => first | exact .dat _ _ _ rfl rfl | exact .virt 1 rfl rfl
            | i + 1, hi => exact absurd hi (by simp))
        | exact Weak.pick [1] (by decide) (by simp) rfl (fun q hq => by
            simp only [List.mem_cons, List.not_mem_nil, or_false] at hq
            rcases hq with rfl | rfl | rfl | rfl <;> first | exact .same _ | exact .nils 0 1 rfl) (fun i hi => by
            match i, hi with
            | 0, _ => first | exact .dat _ _ _ rfl rfl | exact .virt 1 rfl rfl
            | i + 1, hi => exact absurd hi (by simp))
        | exact Weak.pick [3] (by decide) (by simp) rfl (fun q hq => by
            simp only [List.mem_cons, List.not_mem_nil, or_false] at hq
            rcases hq with rfl | rfl | rfl | rfl <;> first | exact .same _ | exact .nils 0 1 rfl) (fun i hi => by
            match i, hi with
            | 0, _ => first | exact .dat _ _ _ rfl rfl | exact .virt 1 rfl rfl
            | i + 1, hi => exact absurd hi (by simp))
      · have eq : decide ((i : Int) ∈ placesL t cells) = false := by simpa using hq
        rw [if_neg hq] at hs
        rw [eq] at hin
        simp (maxSteps := 2000000) -implicitDefEqProofs only [zz, zE, evop, ev, tget, tput, ok, V.isUndef, intBin, Ch.on, calleeOf, withArgs, told, sliceOf, lenOf, ↓reduceIte, reduceCtorEq, Nat.reduceLT, Nat.reduceEqDiff, nilTest, h']
        refine acall_flat' (hin) rfl ?_
        try simp (maxSteps := 2000000) -implicitDefEqProofs only [zz, evop, ev, ofVal, tget, tput, ok, V.isUndef, intBin, Ch.on, told, ↓reduceIte, Nat.reduceLT, Nat.reduceEqDiff, nilTest]
        try simp (maxSteps := 2000000) -implicitDefEqProofs only [hw]
        rw [hs]
        first
        | exact Weak.pick [0] (by decide) (by simp) rfl (fun q hq => by
            simp only [List.mem_cons, List.not_mem_nil, or_false] at hq
            rcases hq with rfl | rfl | rfl | rfl <;> first | exact .same _ | exact .nils 0 1 rfl) (fun i hi => by
            match i, hi with
            | 0, _ => first | exact .dat _ _ _ rfl rfl | exact .virt 1 rfl rfl
            | i + 1, hi => exact absurd hi (by simp))
    · have h' : ¬ ((t.length : Int) < (t.length : Int)) := by omega
      simp (maxSteps := 2000000) -implicitDefEqProofs only [zz, zE, evop, ev, tget, tput, ok, V.isUndef, intBin, Ch.on, told, xport, hget, sliceOf, lenOf, resOf, resV, resVs, ↓reduceIte, reduceCtorEq, Nat.reduceLT, Nat.reduceEqDiff, nilTest, h']
      rw [List.take_of_length_le (by simp)]

theorem c_r03_Held (t : List (Int × Int)) (who : Int) (hl : t.length ≤ 1000000) : CSpec Tryz.prog 189 [.vec (t.map dW), .int .i64 who] (.vec ((heldR t who).map dI)) := by
  have hr := c_r03_Right t hl
  have hw0 := c_r03_Who who
  refine CSpec.of_awp envOf_ok hmix Tryz.func189 rfl (fun args w => Tryz.call189 args w) (by simp [Tryz.f189]) ?_
  simp only [Tryz.f189]
  simp (maxSteps := 2000000) -implicitDefEqProofs only [zz, evop, ev, ofVal, tget, tput, ok, V.isUndef, initT, Ch.on, calleeOf, withArgs, ↓reduceIte, reduceCtorEq, Nat.reduceLT]
  refine acall_flat' (hr) rfl ?_
  try simp (maxSteps := 2000000) -implicitDefEqProofs only [zz, evop, ev, tget, tput, ok, V.isUndef, Ch.on, calleeOf, withArgs, ↓reduceIte, reduceCtorEq, Nat.reduceLT, Nat.reduceEqDiff]
  refine acall_flat' (hw0) rfl ?_
  try simp (maxSteps := 2000000) -implicitDefEqProofs only [zz, evop, ev, ofVal, tget, tput, ok, V.isUndef, Ch.on, ↓reduceIte, Nat.reduceLT, Nat.reduceEqDiff]
  cases h1 : tableR t with
  | false =>
    have hz : heldR t who = [] := by simp [heldR, h1]
    rw [hz]
    refine wloop_ind (σ := Unit) (fun _ => 0) (fun _ => [(8, .d (.int .i64 0)), (5, .d (.bool false)), (6, .d (.bool (decide (1 ≤ who) && decide (who ≤ 8)))), (0, .d (.vec (t.map dW))), (7, .nils)]) (fun _ => []) (fun _ => True) () trivial (Weak.sub (by simp [tget])) ?_
    intro _ _
    by_cases h' : (0 : Int) < (t.length : Int)
    · simp (maxSteps := 2000000) -implicitDefEqProofs only [zz, zE, evop, ev, ofVal, tget, tput, ok, V.isUndef, intBin, guardOf, Ch.on, told, xport, sliceOf, lenOf, resOf, resV, resVs, ↓reduceIte, reduceCtorEq, Nat.reduceLT, Nat.reduceEqDiff, nilTest, h']
    · simp (maxSteps := 2000000) -implicitDefEqProofs only [zz, zE, evop, ev, ofVal, tget, tput, ok, V.isUndef, intBin, guardOf, Ch.on, told, xport, sliceOf, lenOf, resOf, resV, resVs, ↓reduceIte, reduceCtorEq, Nat.reduceLT, Nat.reduceEqDiff, nilTest, h']
  | true =>
  cases h2 : (decide (1 ≤ who) && decide (who ≤ 8)) with
  | false =>
    have h2' : whoB who = false := h2
    have hz : heldR t who = [] := by simp [heldR, h2']
    rw [hz]
    refine wloop_ind (σ := Unit) (fun _ => 0) (fun _ => [(8, .d (.int .i64 0)), (5, .d (.bool true)), (6, .d (.bool false)), (0, .d (.vec (t.map dW))), (7, .nils)]) (fun _ => []) (fun _ => True) () trivial (Weak.sub (by simp [tget])) ?_
    intro _ _
    by_cases h' : (0 : Int) < (t.length : Int)
    · simp (maxSteps := 2000000) -implicitDefEqProofs only [zz, zE, evop, ev, tget, tput, ok, V.isUndef, intBin, guardOf, Ch.on, told, xport, sliceOf, lenOf, resOf, resV, resVs, ↓reduceIte, reduceCtorEq, Nat.reduceLT, Nat.reduceEqDiff, nilTest, h']
    · simp (maxSteps := 2000000) -implicitDefEqProofs only [zz, zE, evop, ev, ofVal, tget, tput, ok, V.isUndef, intBin, guardOf, Ch.on, told, xport, sliceOf, lenOf, resOf, resV, resVs, ↓reduceIte, reduceCtorEq, Nat.reduceLT, Nat.reduceEqDiff, nilTest, h']
  | true =>
  have h2' : whoB who = true := h2
  have hz : heldR t who = heldN t who t.length := by simp [heldR, h1, h2']
  have hln := heldN_len t who
  rw [hz]
  refine wloop_count t.length (fun i => [(8, .d (.int .i64 i)), (5, .d (.bool true)), (6, .d (.bool true)), (0, .d (.vec (t.map dW))), (1, .d (.int .i64 who)), (7, .own 0 0 (heldN t who i).length)]) (fun i => [.dat false 1 ((heldN t who i).map dI)]) (fun _ => True) trivial ?_ (fun i hi _ => ?_) (fun _ => ?_)
  · first
    | exact Weak.pick [7] (by decide) (by simp) rfl (fun q hq => by
        simp only [List.mem_cons, List.not_mem_nil, or_false] at hq
        rcases hq with rfl | rfl | rfl | rfl | rfl | rfl <;> first | exact .same _ | exact .nils 0 1 rfl) (fun i hi => by
        match i, hi with
        | 0, _ => first | exact .dat _ _ _ rfl rfl | exact .virt 1 rfl rfl
        | i + 1, hi => exact absurd hi (by simp))
  · have hx : t[i]? = some (recAt t i) := recAt_get hi
    have h' : ((i : Int) < (t.length : Int)) := by omega
    have hw : IntKind.i64.wrap ((i : Int) + 1) = ((i + 1 : Nat) : Int) := by rw [wrap_in (by omega)]; omega
    have hs := heldN_succ t who i
    simp (maxSteps := 2000000) -implicitDefEqProofs only [zz, zE, evop, ev, ofVal, tget, tput, ok, V.isUndef, intBin, guardOf, Ch.on, told, hget, hput, V.cells, D.cells, V.one, V.toD, loadD, structAt, sliceOf, partsD, elems, lenOf, ↓reduceIte, reduceCtorEq, Nat.reduceLT, Nat.reduceEqDiff, Nat.reduceAdd, Nat.reduceMul, Nat.reduceLeDiff, nilTest, dW, h', List.getElem?_map, hx, Option.map_some, Int.natCast_nonneg, hw]
    by_cases hq : (recAt t i).2 = who
    · have eq : ((recAt t i).2 == who) = true := by simpa using hq
      rw [if_pos hq] at hs
      simp (maxSteps := 2000000) -implicitDefEqProofs only [↓reduceIte, eq]
      refine ⟨⟨by have := hln i; omega, okEl_I [(i : Int)]⟩, ?_⟩
      have e6 : List.take (heldN t who i).length ((heldN t who i).map dI) = (heldN t who i).map dI := by rw [List.take_of_length_le]; simp
      rw [hs, e6, List.length_append, List.map_append]
      first
      | exact Weak.pick [2] (by decide) (by simp) rfl (fun q hq => by
          simp only [List.mem_cons, List.not_mem_nil, or_false] at hq
          rcases hq with rfl | rfl | rfl | rfl | rfl | rfl <;> first | exact .same _ | exact .nils 0 1 rfl) (fun i hi => by
          match i, hi with
          | 0, _ => first | exact .dat _ _ _ rfl rfl | exact .virt 1 rfl rfl
          | i + 1, hi => exact absurd hi (by simp))
      | exact Weak.pick [1] (by decide) (by simp) rfl (fun q hq => by
          simp only [List.mem_cons, List.not_mem_nil, or_false] at hq
          rcases hq with rfl | rfl | rfl | rfl | rfl | rfl <;> first | exact .same _ | exact .nils 0 1 rfl) (fun i hi => by
          match i, hi with
          | 0, _ => first | exact .dat _ _ _ rfl rfl | exact .virt 1 rfl rfl
          | i + 1, hi => exact absurd hi (by simp))
      | exact Weak.pick [3] (by decide) (by simp) rfl (fun q hq => by
          simp only [List.mem_cons, List.not_mem_nil, or_false] at hq
          rcases hq with rfl | rfl | rfl | rfl | rfl | rfl <;> first | exact .same _ | exact .nils 0 1 rfl) (fun i hi => by
          match i, hi with
          | 0, _ => first | exact .dat _ _ _ rfl rfl | exact .virt 1 rfl rfl
          | i + 1, hi => exact absurd hi (by simp))
    · have eq : ((recAt t i).2 == who) = false := by simpa using hq
      rw [if_neg hq] at hs
      simp (maxSteps := 2000000) -implicitDefEqProofs only [zz, ↓reduceIte, eq]
      rw [hs]
      first
      | exact Weak.pick [0] (by decide) (by simp) rfl (fun q hq => by
          simp only [List.mem_cons, List.not_mem_nil, or_false] at hq
          rcases hq with rfl | rfl | rfl | rfl | rfl | rfl <;> first | exact .same _ | exact .nils 0 1 rfl) (fun i hi => by
          match i, hi with
          | 0, _ => first | exact .dat _ _ _ rfl rfl | exact .virt 1 rfl rfl
          | i + 1, hi => exact absurd hi (by simp))
  · have h' : ¬ ((t.length : Int) < (t.length : Int)) := by omega
    simp (maxSteps := 2000000) -implicitDefEqProofs only [zz, zE, evop, ev, ofVal, tget, tput, ok, V.isUndef, intBin, guardOf, Ch.on, told, xport, hget, sliceOf, lenOf, resOf, resV, resVs, ↓reduceIte, reduceCtorEq, Nat.reduceLT, Nat.reduceEqDiff, nilTest, h']
    rw [List.take_of_length_le (by simp)]
end Go.Proofs.YtjhfpabldidlgaaGreat.AM

set_option linter.all false
set_option maxRecDepth 100000
set_option maxHeartbeats 8000000
namespace Go.Proofs.YtjhfpabldidlgaaGreat.AM
open Go Go.RowKit

theorem setsL_take {t : List (Int × Int)} {L : List Int} {g : Int × Int → Int × Int} {i : Nat} (h : i < t.length) : (setsL t L g).take (i + 1) = (setsL t L g).take i ++ [if (i : Int) ∈ L then g (recAt t i) else recAt t i] := by
  rw [List.take_succ, setsL_get h]; rfl
theorem setsL_takeLen {t : List (Int × Int)} {L : List Int} {g : Int × Int → Int × Int} {i : Nat} (h : i ≤ t.length) : ((setsL t L g).take i).length = i := by
  rw [List.length_take, setsL_len]; omega
theorem rec_ok {t : List (Int × Int)} (h : tableR t = true) {i : Int} (h0 : 0 ≤ i) (h1 : i < t.length) : 0 ≤ (recAt t i).1 ∧ (recAt t i).1 ≤ 2147483647 ∧ 0 ≤ (recAt t i).2 ∧ (recAt t i).2 ≤ 8 := by
  have hg := recAt_int h0 h1
  have hm : recAt t i ∈ t := List.mem_of_getElem? hg
  simp only [tableR, Bool.and_eq_true, Bool.not_eq_true', List.any_eq_false] at h
  have := h.2 _ hm
  simp [wrongR] at this
  omega

theorem c_r03_Let (t : List (Int × Int)) (who : Int) (hl : t.length ≤ 1000000) : CSpec Tryz.prog 147 [.vec (t.map dW), .int .i64 who] (.vec ((letR t who).map dW)) := by
  have hh := c_r03_Held t who hl
  have hln : (heldR t who).length ≤ t.length := by unfold heldR; split; exact heldN_len ..; simp
  unfold letR
  generalize heldR t who = L at hh hln
  refine CSpec.of_awp envOf_ok hmix Tryz.func147 rfl (fun args w => Tryz.call147 args w) (by simp [Tryz.f147]) ?_
  simp only [Tryz.f147]
  simp (maxSteps := 2000000) -implicitDefEqProofs only [zz, evop, ev, ofVal, tget, tput, ok, V.isUndef, initT, Ch.on, calleeOf, withArgs, ↓reduceIte, reduceCtorEq, Nat.reduceLT, Nat.reduceEqDiff]
  refine acall_ice' (hh) ?_
  try simp (maxSteps := 2000000) -implicitDefEqProofs only [zz, evop, ev, ofVal, tget, tput, ok, V.isUndef, Ch.on, tids, tidss, freeze, ↓reduceIte, Nat.reduceLT]
  refine wloop_count t.length (fun i => [(7, .d (.int .i64 i)), (0, .d (.vec (t.map dW))), (5, .d (.vec (L.map dI))), (6, .own 0 0 i)]) (fun i => [.dat false 2 (((setsL t L fun r => (r.1, 0)).take i).map dW)]) (fun _ => True) trivial ?_ (fun i hi _ => ?_) (fun _ => ?_)
  · first
    | exact Weak.pick [7] (by decide) (by simp) rfl (fun q hq => by
        simp only [List.mem_cons, List.not_mem_nil, or_false] at hq
        rcases hq with rfl | rfl | rfl | rfl <;> first | exact .same _ | exact .nils 0 2 rfl) (fun i hi => by
        match i, hi with
        | 0, _ => first | exact .dat _ _ _ rfl rfl | exact .virt 2 rfl rfl
        | i + 1, hi => exact absurd hi (by simp))
  · have hx : t[i]? = some (recAt t i) := recAt_get hi
    have h' : ((i : Int) < (t.length : Int)) := by omega
    have hw : IntKind.i64.wrap ((i : Int) + 1) = ((i + 1 : Nat) : Int) := by rw [wrap_in (by omega)]; omega
    have hT := setsL_take (L := L) (g := fun r => (r.1, 0)) hi
    have hTl := setsL_takeLen (L := L) (g := fun r => (r.1, 0)) (Nat.le_of_lt hi)
    have hin := c_r03_in L i (by omega)
    have e6 : List.take i (((setsL t L fun r => (r.1, 0)).take i).map dW) = ((setsL t L fun r => (r.1, 0)).take i).map dW := by rw [List.take_of_length_le]; rw [List.length_map, hTl]; exact Nat.le_refl _
    generalize (setsL t L fun r => (r.1, 0)).take i = A at hT hTl e6
    by_cases hq : (i : Int) ∈ L
    · have eq : decide ((i : Int) ∈ L) = true := by simpa using hq
      rw [eq] at hin
      rw [if_pos hq] at hT
      simp (maxSteps := 2000000) -implicitDefEqProofs only [zz, zE, evop, ev, tget, tput, ok, V.isUndef, intBin, Ch.on, calleeOf, withArgs, told, sliceOf, lenOf, ↓reduceIte, reduceCtorEq, Nat.reduceLT, Nat.reduceEqDiff, nilTest, h']
      refine acall_flat' (hin) rfl ?_
      try simp (maxSteps := 2000000) -implicitDefEqProofs only [zz, zE, evop, ev, tget, tput, ok, V.isUndef, Ch.on, told, D.cells, ↓reduceIte, reduceCtorEq, Nat.reduceLT, Nat.reduceEqDiff]
      simp (maxSteps := 2000000) -implicitDefEqProofs only [zz, zE, evop, ev, ofVal, tget, tput, ok, V.isUndef, intBin, Ch.on, hget, hput, V.cells, D.cells, V.one, V.clo, clos, V.toD, loadD, structAt, sliceOf, partsD, partsV, elems, splice, ↓reduceIte, reduceCtorEq, Nat.reduceLT, Nat.reduceEqDiff, Nat.reduceAdd, Nat.reduceMul, Nat.reduceLeDiff, nilTest, dW, List.getElem?_map, hx, Option.map_some, Int.natCast_nonneg, hw]
      refine ⟨⟨by omega, okEl_W [((recAt t i).1, 0)]⟩, ?_⟩
      rw [hT, e6, List.map_append]
      first
      | exact Weak.pick [2] (by decide) (by simp) rfl (fun q hq => by
          simp only [List.mem_cons, List.not_mem_nil, or_false] at hq
          rcases hq with rfl | rfl | rfl | rfl <;> first | exact .same _ | exact .nils 0 2 rfl) (fun i hi => by
          match i, hi with
          | 0, _ => first | exact .dat _ _ _ rfl rfl | exact .virt 2 rfl rfl
          | i + 1, hi => exact absurd hi (by simp))
      | exact Weak.pick [1] (by decide) (by simp) rfl (fun q hq => by
          simp only [List.mem_cons, List.not_mem_nil, or_false] at hq
          rcases hq with rfl | rfl | rfl | rfl <;> first | exact .same _ | exact .nils 0 2 rfl) (fun i hi => by
          match i, hi with
          | 0, _ => first | exact .dat _ _ _ rfl rfl | exact .virt 2 rfl rfl
          | i + 1, hi => exact absurd hi (by simp))
      | exact Weak.pick [3] (by decide) (by simp) rfl (fun q hq => by
          simp only [List.mem_cons, List.not_mem_nil, or_false] at hq
          rcases hq with rfl | rfl | rfl | rfl <;> first | exact .same _ | exact .nils 0 2 rfl) (fun i hi => by
          match i, hi with
          | 0, _ => first | exact .dat _ _ _ rfl rfl | exact .virt 2 rfl rfl
          | i + 1, hi => exact absurd hi (by simp))
      | exact Weak.pick [4] (by decide) (by simp) rfl (fun q hq => by
          simp only [List.mem_cons, List.not_mem_nil, or_false] at hq
          rcases hq with rfl | rfl | rfl | rfl <;> first | exact .same _ | exact .nils 0 2 rfl) (fun i hi => by
          match i, hi with
          | 0, _ => first | exact .dat _ _ _ rfl rfl | exact .virt 2 rfl rfl
          | i + 1, hi => exact absurd hi (by simp))
    · have eq : decide ((i : Int) ∈ L) = false := by simpa using hq
      rw [eq] at hin
      rw [if_neg hq] at hT
      simp (maxSteps := 2000000) -implicitDefEqProofs only [zz, zE, evop, ev, tget, tput, ok, V.isUndef, intBin, Ch.on, calleeOf, withArgs, told, sliceOf, lenOf, ↓reduceIte, reduceCtorEq, Nat.reduceLT, Nat.reduceEqDiff, nilTest, h']
      refine acall_flat' (hin) rfl ?_
      try simp (maxSteps := 2000000) -implicitDefEqProofs only [zz, zE, evop, ev, tget, tput, ok, V.isUndef, Ch.on, told, D.cells, ↓reduceIte, reduceCtorEq, Nat.reduceLT, Nat.reduceEqDiff]
      simp (maxSteps := 2000000) -implicitDefEqProofs only [zz, zE, evop, ev, ofVal, tget, tput, ok, V.isUndef, intBin, Ch.on, hget, hput, V.cells, D.cells, V.one, V.toD, loadD, sliceOf, partsD, elems, ↓reduceIte, Nat.reduceLT, Nat.reduceEqDiff, Nat.reduceAdd, Nat.reduceMul, Nat.reduceLeDiff, nilTest, dW, List.getElem?_map, hx, Option.map_some, Int.natCast_nonneg, hw]
      refine ⟨⟨by omega, okEl_W [recAt t i]⟩, ?_⟩
      rw [hT, e6, List.map_append]
      first
      | exact Weak.pick [2] (by decide) (by simp) rfl (fun q hq => by
          simp only [List.mem_cons, List.not_mem_nil, or_false] at hq
          rcases hq with rfl | rfl | rfl | rfl <;> first | exact .same _ | exact .nils 0 2 rfl) (fun i hi => by
          match i, hi with
          | 0, _ => first | exact .dat _ _ _ rfl rfl | exact .virt 2 rfl rfl
          | i + 1, hi => exact absurd hi (by simp))
      | exact Weak.pick [1] (by decide) (by simp) rfl (fun q hq => by
          simp only [List.mem_cons, List.not_mem_nil, or_false] at hq
          rcases hq with rfl | rfl | rfl | rfl <;> first | exact .same _ | exact .nils 0 2 rfl) (fun i hi => by
          match i, hi with
          | 0, _ => first | exact .dat _ _ _ rfl rfl | exact .virt 2 rfl rfl
          | i + 1, hi => exact absurd hi (by simp))
      | exact Weak.pick [3] (by decide) (by simp) rfl (fun q hq => by
          simp only [List.mem_cons, List.not_mem_nil, or_false] at hq
          rcases hq with rfl | rfl | rfl | rfl <;> first | exact .same _ | exact .nils 0 2 rfl) (fun i hi => by
          match i, hi with
          | 0, _ => first | exact .dat _ _ _ rfl rfl | exact .virt 2 rfl rfl
          | i + 1, hi => exact absurd hi (by simp))
      | exact Weak.pick [4] (by decide) (by simp) rfl (fun q hq => by
          simp only [List.mem_cons, List.not_mem_nil, or_false] at hq
          rcases hq with rfl | rfl | rfl | rfl <;> first | exact .same _ | exact .nils 0 2 rfl) (fun i hi => by
          match i, hi with
          | 0, _ => first | exact .dat _ _ _ rfl rfl | exact .virt 2 rfl rfl
          | i + 1, hi => exact absurd hi (by simp))
  · have h' : ¬ ((t.length : Int) < (t.length : Int)) := by omega
    have hlen := setsL_len t L (fun r => (r.1, 0))
    simp (maxSteps := 2000000) -implicitDefEqProofs only [zz, zE, evop, ev, tget, tput, ok, V.isUndef, intBin, Ch.on, told, xport, hget, sliceOf, lenOf, resOf, resV, resVs, ↓reduceIte, reduceCtorEq, Nat.reduceLT, Nat.reduceEqDiff, nilTest, h']
    rw [List.take_of_length_le (by simp [hlen]), List.take_of_length_le (by simp [hlen])]

theorem c_r03_Lock (t : List (Int × Int)) (who : Int) (cells : List Int) (h1 : tableR t = true) (h2 : cells.any negI = false) (h3 : whoB who = true) (hc : cells.length ≤ 1000000) : CSpec Tryz.prog 86 [.vec (t.map dW), .int .i64 who, .vec (cells.map dI)] (.tuple [.vec ((lockR t who cells).1.map dW), .int .i64 (lockR t who cells).2]) := by
  have htl := tableR_len h1
  have hr := c_r03_Right t (by omega)
  have hcs := c_r03_Cells cells hc
  have hw0 := c_r03_Who who
  have hof := c_r03_Of t cells h1 h2 hc
  have h3' : (decide (1 ≤ who) && decide (who ≤ 8)) = true := h3
  rw [h1] at hr
  rw [h2] at hcs
  rw [h3'] at hw0
  have hmay : mayO' t cells = true := by simp only [mayO', h1, h2]; rfl
  have hmo : (mayO' t cells && whoB who) = true := by rw [hmay, h3]; rfl
  have hmem : ∀ i : Int, 0 ≤ i → i < t.length → (i ∈ ofR t cells ↔ i ∈ ofN t cells t.length) := fun i a b => by
    rw [ofR_mem hmay, ofN_mem]
    simp [placesL, a, b]
  have hlk : lockR t who cells = if ∃ i : Nat, i < t.length ∧ (i : Int) ∈ ofN t cells t.length ∧ badO t who i = true then (t, 7) else (setsL t (ofN t cells t.length) fun r => (r.1, who), 0) := by
    unfold lockR
    rw [if_pos hmo]
    by_cases hb : (ofR t cells).any (badO t who) = true
    · rw [if_pos hb, if_pos]
      obtain ⟨i, hi, hbi⟩ := List.any_eq_true.1 hb
      obtain ⟨a, b⟩ := ofR_in hi
      have e : ((i.toNat : Nat) : Int) = i := by omega
      exact ⟨i.toNat, by omega, by rw [e]; exact (hmem i a b).1 hi, by rw [e]; exact hbi⟩
    · rw [if_neg hb, if_neg]
      · rw [setsL_congr hmem]
      · rintro ⟨i, a, b, c⟩
        exact hb (List.any_eq_true.2 ⟨i, (hmem i (by omega) (by omega)).2 b, c⟩)
  have hln := ofN_len t cells t.length
  generalize lockR t who cells = y at hlk ⊢
  generalize ofN t cells t.length = L at hlk hof hln
  refine CSpec.of_awp envOf_ok hmix Tryz.func86 rfl (fun args w => Tryz.call86 args w) (by simp [Tryz.f86]) ?_
  simp only [Tryz.f86]
  simp (maxSteps := 2000000) -implicitDefEqProofs only [zz, evop, ev, ofVal, tget, tput, ok, V.isUndef, initT, Ch.on, calleeOf, withArgs, ↓reduceIte, reduceCtorEq, Nat.reduceLT, Nat.reduceAdd]
  refine acall_flat' (hr) rfl ?_
  try simp (maxSteps := 2000000) -implicitDefEqProofs only [zz, evop, ev, tget, tput, ok, V.isUndef, Ch.on, calleeOf, withArgs, ↓reduceIte, reduceCtorEq, Nat.reduceLT, Nat.reduceEqDiff]
  refine acall_flat' (hw0) rfl ?_
  try simp (maxSteps := 2000000) -implicitDefEqProofs only [zz, evop, ev, tget, tput, ok, V.isUndef, Ch.on, calleeOf, withArgs, ↓reduceIte, reduceCtorEq, Nat.reduceLT, Nat.reduceEqDiff]
  refine acall_flat' (hcs) rfl ?_
  try simp (maxSteps := 2000000) -implicitDefEqProofs only [zz, evop, ev, tget, tput, ok, V.isUndef, guardOf, Ch.on, calleeOf, withArgs, told, ↓reduceIte, reduceCtorEq, Nat.reduceLT, Nat.reduceEqDiff]
  refine acall_ice' (hof) ?_
  try simp (maxSteps := 2000000) -implicitDefEqProofs only [zz, evop, ev, ofVal, tget, tput, ok, V.isUndef, Ch.on, tids, tidss, freeze, ↓reduceIte, Nat.reduceLT]
  refine wloop_count t.length (fun i => [(13, .d (.int .i64 i)), (0, .d (.vec (t.map dW))), (1, .d (.int .i64 who)), (11, .d (.vec (L.map dI))), (12, .own 0 0 i)]) (fun i => [.dat false 2 (((setsL t L fun r => (r.1, who)).take i).map dW)]) (fun i => ∀ k < i, (k : Int) ∈ L → badO t who k = false) (fun k hk => by omega) ?_ (fun i hi hI => ?_) (fun hI => ?_)
  · first
    | exact Weak.pick [7] (by decide) (by simp) rfl (fun q hq => by
        simp only [List.mem_cons, List.not_mem_nil, or_false] at hq
        rcases hq with rfl | rfl | rfl | rfl | rfl <;> first | exact .same _ | exact .nils 0 2 rfl) (fun i hi => by
        match i, hi with
        | 0, _ => first | exact .dat _ _ _ rfl rfl | exact .virt 2 rfl rfl
        | i + 1, hi => exact absurd hi (by simp))
  · have hx : t[i]? = some (recAt t i) := recAt_get hi
    have h' : ((i : Int) < (t.length : Int)) := by omega
    have hw : IntKind.i64.wrap ((i : Int) + 1) = ((i + 1 : Nat) : Int) := by rw [wrap_in (by omega)]; omega
    have hT := setsL_take (L := L) (g := fun r => (r.1, who)) hi
    have hTl := setsL_takeLen (L := L) (g := fun r => (r.1, who)) (Nat.le_of_lt hi)
    have hin := c_r03_in L i (by omega)
    obtain ⟨r1, r2, r3, r4⟩ := rec_ok h1 (i := i) (by omega) (by omega)
    have e6 : List.take i (((setsL t L fun r => (r.1, who)).take i).map dW) = ((setsL t L fun r => (r.1, who)).take i).map dW := by rw [List.take_of_length_le]; rw [List.length_map, hTl]; exact Nat.le_refl _
    have hbd : badO t who i = (((recAt t i).2 != 0) && ((recAt t i).2 != who)) := rfl
    have fin : (i : Int) ∈ L → badO t who i = true → y = (t, 7) := fun a b => by rw [hlk, if_pos ⟨i, hi, a, b⟩]
    have fin2 : ((i : Int) ∈ L → badO t who i = false) → ∀ k < i + 1, (k : Int) ∈ L → badO t who k = false := fun g k hk hkm => by
      by_cases e : k = i
      · subst e; exact g hkm
      · exact hI k (by omega) hkm
    generalize (setsL t L fun r => (r.1, who)).take i = A at hT hTl e6
    generalize recAt t i = r at hx hT r1 r2 r3 r4 hbd
    by_cases hq : (i : Int) ∈ L
    · have eq : decide ((i : Int) ∈ L) = true := by simpa using hq
      rw [eq] at hin
      rw [if_pos hq] at hT
      by_cases a1 : r.2 > 0
      · by_cases a2 : r.2 = who
        · have eb : (r.2 != who) = false := by simpa using a2
          simp (maxSteps := 2000000) -implicitDefEqProofs only [zz, zE, evop, ev, tget, tput, ok, V.isUndef, intBin, Ch.on, calleeOf, withArgs, told, hget, hput, V.cells, D.cells, V.one, loadD, sliceOf, lenOf, splice, ↓reduceIte, reduceCtorEq, Nat.reduceLT, Nat.reduceEqDiff, Nat.reduceAdd, Nat.reduceLeDiff, nilTest, dW, h', List.getElem?_map, hx, Option.map_some, Int.natCast_nonneg]
          refine acall_flat' (hin) rfl ?_
          try simp (maxSteps := 2000000) -implicitDefEqProofs only [zz, zE, evop, ev, ofVal, tget, tput, ok, V.isUndef, intBin, guardOf, Ch.on, told, xport, xports, hget, hput, V.cells, D.cells, V.one, V.clo, clos, V.toD, structAt, sliceOf, partsD, Blk.width, elems, splice, resOf, resV, resVs, ↓reduceIte, reduceCtorEq, Nat.reduceLT, Nat.reduceEqDiff, Nat.reduceAdd, Nat.reduceMul, Nat.reduceLeDiff, nilTest]
          simp (maxSteps := 2000000) -implicitDefEqProofs only [zz, ↓reduceIte, a1, eb, hw]
          refine ⟨⟨by omega, okEl_W [(r.1, who)]⟩, fin2 (fun _ => by rw [hbd, eb]; simp), ?_⟩
          rw [hT, e6, List.map_append]
          first
          | exact Weak.pick [3] (by decide) (by simp) rfl (fun q hq => by
              simp only [List.mem_cons, List.not_mem_nil, or_false] at hq
              rcases hq with rfl | rfl | rfl | rfl | rfl <;> first | exact .same _ | exact .nils 0 2 rfl) (fun i hi => by
              match i, hi with
              | 0, _ => first | exact .dat _ _ _ rfl rfl | exact .virt 2 rfl rfl
              | i + 1, hi => exact absurd hi (by simp))
          | exact Weak.pick [2] (by decide) (by simp) rfl (fun q hq => by
              simp only [List.mem_cons, List.not_mem_nil, or_false] at hq
              rcases hq with rfl | rfl | rfl | rfl | rfl <;> first | exact .same _ | exact .nils 0 2 rfl) (fun i hi => by
              match i, hi with
              | 0, _ => first | exact .dat _ _ _ rfl rfl | exact .virt 2 rfl rfl
              | i + 1, hi => exact absurd hi (by simp))
          | exact Weak.pick [1] (by decide) (by simp) rfl (fun q hq => by
              simp only [List.mem_cons, List.not_mem_nil, or_false] at hq
              rcases hq with rfl | rfl | rfl | rfl | rfl <;> first | exact .same _ | exact .nils 0 2 rfl) (fun i hi => by
              match i, hi with
              | 0, _ => first | exact .dat _ _ _ rfl rfl | exact .virt 2 rfl rfl
              | i + 1, hi => exact absurd hi (by simp))
          | exact Weak.pick [4] (by decide) (by simp) rfl (fun q hq => by
              simp only [List.mem_cons, List.not_mem_nil, or_false] at hq
              rcases hq with rfl | rfl | rfl | rfl | rfl <;> first | exact .same _ | exact .nils 0 2 rfl) (fun i hi => by
              match i, hi with
              | 0, _ => first | exact .dat _ _ _ rfl rfl | exact .virt 2 rfl rfl
              | i + 1, hi => exact absurd hi (by simp))
          | exact Weak.pick [5] (by decide) (by simp) rfl (fun q hq => by
              simp only [List.mem_cons, List.not_mem_nil, or_false] at hq
              rcases hq with rfl | rfl | rfl | rfl | rfl <;> first | exact .same _ | exact .nils 0 2 rfl) (fun i hi => by
              match i, hi with
              | 0, _ => first | exact .dat _ _ _ rfl rfl | exact .virt 2 rfl rfl
              | i + 1, hi => exact absurd hi (by simp))
        · have eb : (r.2 != who) = true := by simpa using a2
          have ez : (r.2 != 0) = true := by simp; omega
          obtain rfl := fin hq (by rw [hbd, eb, ez]; rfl)
          simp (maxSteps := 2000000) -implicitDefEqProofs only [zz, zE, evop, ev, tget, tput, ok, V.isUndef, intBin, Ch.on, calleeOf, withArgs, told, hget, hput, V.cells, D.cells, V.one, loadD, sliceOf, lenOf, splice, ↓reduceIte, reduceCtorEq, Nat.reduceLT, Nat.reduceEqDiff, Nat.reduceAdd, Nat.reduceLeDiff, nilTest, dW, h', List.getElem?_map, hx, Option.map_some, Int.natCast_nonneg]
          refine acall_flat' (hin) rfl ?_
          try simp (maxSteps := 2000000) -implicitDefEqProofs only [zz, zE, evop, ev, ofVal, tget, tput, ok, V.isUndef, intBin, guardOf, Ch.on, told, xport, xports, hget, hput, V.cells, D.cells, V.one, V.clo, clos, V.toD, structAt, sliceOf, partsD, Blk.width, elems, splice, resOf, resV, resVs, ↓reduceIte, reduceCtorEq, Nat.reduceLT, Nat.reduceEqDiff, Nat.reduceAdd, Nat.reduceMul, Nat.reduceLeDiff, nilTest]
          simp (maxSteps := 2000000) -implicitDefEqProofs only [↓reduceIte, a1, eb]
      · have ez : (r.2 != 0) = false := by simp; omega
        simp (maxSteps := 2000000) -implicitDefEqProofs only [zz, zE, evop, ev, tget, tput, ok, V.isUndef, intBin, Ch.on, calleeOf, withArgs, told, hget, hput, V.cells, D.cells, V.one, loadD, sliceOf, lenOf, splice, ↓reduceIte, reduceCtorEq, Nat.reduceLT, Nat.reduceEqDiff, Nat.reduceAdd, Nat.reduceLeDiff, nilTest, dW, h', List.getElem?_map, hx, Option.map_some, Int.natCast_nonneg]
        refine acall_flat' (hin) rfl ?_
        try simp (maxSteps := 2000000) -implicitDefEqProofs only [zz, zE, evop, ev, ofVal, tget, tput, ok, V.isUndef, intBin, guardOf, Ch.on, told, xport, xports, hget, hput, V.cells, D.cells, V.one, V.clo, clos, V.toD, structAt, sliceOf, partsD, Blk.width, elems, splice, resOf, resV, resVs, ↓reduceIte, reduceCtorEq, Nat.reduceLT, Nat.reduceEqDiff, Nat.reduceAdd, Nat.reduceMul, Nat.reduceLeDiff, nilTest]
        simp (maxSteps := 2000000) -implicitDefEqProofs only [zz, ↓reduceIte, a1, hw]
        refine ⟨⟨by omega, okEl_W [(r.1, who)]⟩, fin2 (fun _ => by rw [hbd, ez]; rfl), ?_⟩
        rw [hT, e6, List.map_append]
        first
        | exact Weak.pick [3] (by decide) (by simp) rfl (fun q hq => by
            simp only [List.mem_cons, List.not_mem_nil, or_false] at hq
            rcases hq with rfl | rfl | rfl | rfl | rfl <;> first | exact .same _ | exact .nils 0 2 rfl) (fun i hi => by
            match i, hi with
            | 0, _ => first | exact .dat _ _ _ rfl rfl | exact .virt 2 rfl rfl
            | i + 1, hi => exact absurd hi (by simp))
        | exact Weak.pick [2] (by decide) (by simp) rfl (fun q hq => by
            simp only [List.mem_cons, List.not_mem_nil, or_false] at hq
            rcases hq with rfl | rfl | rfl | rfl | rfl <;> first | exact .same _ | exact .nils 0 2 rfl) (fun i hi => by
            match i, hi with
            | 0, _ => first | exact .dat _ _ _ rfl rfl | exact .virt 2 rfl rfl
            | i + 1, hi => exact absurd hi (by simp))
        | exact Weak.pick [1] (by decide) (by simp) rfl (fun q hq => by
            simp only [List.mem_cons, List.not_mem_nil, or_false] at hq
            rcases hq with rfl | rfl | rfl | rfl | rfl <;> first | exact .same _ | exact .nils 0 2 rfl) (fun i hi => by
            match i, hi with
            | 0, _ => first | exact .dat _ _ _ rfl rfl | exact .virt 2 rfl rfl
            | i + 1, hi => exact absurd hi (by simp))
        | exact Weak.pick [4] (by decide) (by simp) rfl (fun q hq => by
            simp only [List.mem_cons, List.not_mem_nil, or_false] at hq
            rcases hq with rfl | rfl | rfl | rfl | rfl <;> first | exact .same _ | exact .nils 0 2 rfl) (fun i hi => by
            match i, hi with
            | 0, _ => first | exact .dat _ _ _ rfl rfl | exact .virt 2 rfl rfl
            | i + 1, hi => exact absurd hi (by simp))
        | exact Weak.pick [5] (by decide) (by simp) rfl (fun q hq => by
            simp only [List.mem_cons, List.not_mem_nil, or_false] at hq
            rcases hq with rfl | rfl | rfl | rfl | rfl <;> first | exact .same _ | exact .nils 0 2 rfl) (fun i hi => by
            match i, hi with
            | 0, _ => first | exact .dat _ _ _ rfl rfl | exact .virt 2 rfl rfl
            | i + 1, hi => exact absurd hi (by simp))
    · have eq : decide ((i : Int) ∈ L) = false := by simpa using hq
      rw [eq] at hin
      rw [if_neg hq] at hT
      simp (maxSteps := 2000000) -implicitDefEqProofs only [zz, zE, evop, ev, tget, tput, ok, V.isUndef, intBin, Ch.on, calleeOf, withArgs, told, hget, hput, V.cells, D.cells, V.one, loadD, sliceOf, lenOf, splice, ↓reduceIte, reduceCtorEq, Nat.reduceLT, Nat.reduceEqDiff, Nat.reduceAdd, Nat.reduceLeDiff, nilTest, dW, h', List.getElem?_map, hx, Option.map_some, Int.natCast_nonneg]
      refine acall_flat' (hin) rfl ?_
      try simp (maxSteps := 2000000) -implicitDefEqProofs only [zz, zE, evop, ev, ofVal, tget, tput, ok, V.isUndef, intBin, Ch.on, told, hget, hput, V.cells, D.cells, V.one, V.clo, clos, V.toD, sliceOf, partsD, elems, ↓reduceIte, reduceCtorEq, Nat.reduceLT, Nat.reduceEqDiff, Nat.reduceAdd, Nat.reduceMul, Nat.reduceLeDiff, nilTest]
      simp (maxSteps := 2000000) -implicitDefEqProofs only [hw]
      refine ⟨⟨by omega, okEl_W [r]⟩, fin2 (fun g => absurd g hq), ?_⟩
      rw [hT, e6, List.map_append]
      first
      | exact Weak.pick [3] (by decide) (by simp) rfl (fun q hq => by
          simp only [List.mem_cons, List.not_mem_nil, or_false] at hq
          rcases hq with rfl | rfl | rfl | rfl | rfl <;> first | exact .same _ | exact .nils 0 2 rfl) (fun i hi => by
          match i, hi with
          | 0, _ => first | exact .dat _ _ _ rfl rfl | exact .virt 2 rfl rfl
          | i + 1, hi => exact absurd hi (by simp))
      | exact Weak.pick [2] (by decide) (by simp) rfl (fun q hq => by
          simp only [List.mem_cons, List.not_mem_nil, or_false] at hq
          rcases hq with rfl | rfl | rfl | rfl | rfl <;> first | exact .same _ | exact .nils 0 2 rfl) (fun i hi => by
          match i, hi with
          | 0, _ => first | exact .dat _ _ _ rfl rfl | exact .virt 2 rfl rfl
          | i + 1, hi => exact absurd hi (by simp))
      | exact Weak.pick [1] (by decide) (by simp) rfl (fun q hq => by
          simp only [List.mem_cons, List.not_mem_nil, or_false] at hq
          rcases hq with rfl | rfl | rfl | rfl | rfl <;> first | exact .same _ | exact .nils 0 2 rfl) (fun i hi => by
          match i, hi with
          | 0, _ => first | exact .dat _ _ _ rfl rfl | exact .virt 2 rfl rfl
          | i + 1, hi => exact absurd hi (by simp))
      | exact Weak.pick [4] (by decide) (by simp) rfl (fun q hq => by
          simp only [List.mem_cons, List.not_mem_nil, or_false] at hq
          rcases hq with rfl | rfl | rfl | rfl | rfl <;> first | exact .same _ | exact .nils 0 2 rfl) (fun i hi => by
          match i, hi with
          | 0, _ => first | exact .dat _ _ _ rfl rfl | exact .virt 2 rfl rfl
          | i + 1, hi => exact absurd hi (by simp))
      | exact Weak.pick [5] (by decide) (by simp) rfl (fun q hq => by
          simp only [List.mem_cons, List.not_mem_nil, or_false] at hq
          rcases hq with rfl | rfl | rfl | rfl | rfl <;> first | exact .same _ | exact .nils 0 2 rfl) (fun i hi => by
          match i, hi with
          | 0, _ => first | exact .dat _ _ _ rfl rfl | exact .virt 2 rfl rfl
          | i + 1, hi => exact absurd hi (by simp))
  · have h' : ¬ ((t.length : Int) < (t.length : Int)) := by omega
    have hlen := setsL_len t L (fun r => (r.1, who))
    rw [if_neg (by rintro ⟨i, a, b, c⟩; rw [hI i a b] at c; cases c)] at hlk
    subst hlk
    simp (maxSteps := 2000000) -implicitDefEqProofs only [zz, zE, evop, ev, ofVal, tget, tput, ok, V.isUndef, intBin, Ch.on, told, xport, xports, hget, sliceOf, lenOf, resOf, resV, resVs, ↓reduceIte, reduceCtorEq, Nat.reduceLT, Nat.reduceEqDiff, nilTest, h']
    rw [List.take_of_length_le (by simp [hlen]), List.take_of_length_le (by simp [hlen])]

theorem c_r03_Stamp (t : List (Int × Int)) (who v : Int) (h1 : tableR t = true) (h3 : whoB who = true) : CSpec Tryz.prog 91 [.vec (t.map dW), .int .i64 who, .int .i64 v] (.tuple [.vec ((stampR t who v).1.map dW), .int .i64 (stampR t who v).2]) := by
  have htl := tableR_len h1
  have hr := c_r03_Right t (by omega)
  have hw0 := c_r03_Who who
  have h3' : (decide (1 ≤ who) && decide (who ≤ 8)) = true := h3
  rw [h1] at hr
  rw [h3'] at hw0
  have hmo : (tableR t && whoB who) = true := by rw [h1, h3]; rfl
  have hS : stampR t who v = if v < 0 ∨ 2147483647 < v ∨ (heldR t who).any (fun i => decide (v ≤ (recAt t i).1)) = true then (t, 6) else (setsL t (heldR t who) fun _ => (v, 0), 0) := by unfold stampR; rw [if_pos hmo]
  have hmem : ∀ i : Int, 0 ≤ i → i < t.length → (i ∈ heldR t who ↔ (recAt t i).2 = who) := fun i a b => by rw [heldR_mem]; simp [hmo, a, b]
  have hsub : ∀ i ∈ heldR t who, 0 ≤ i ∧ i < t.length := fun i h => by have := heldR_mem.1 h; exact ⟨this.2.1, this.2.2.1⟩
  generalize stampR t who v = y at hS ⊢
  generalize heldR t who = L at hS hmem hsub
  refine CSpec.of_awp envOf_ok hmix Tryz.func91 rfl (fun args w => Tryz.call91 args w) (by simp [Tryz.f91]) ?_
  simp only [Tryz.f91]
  simp (maxSteps := 2000000) -implicitDefEqProofs only [zz, evop, ev, ofVal, tget, tput, ok, V.isUndef, initT, Ch.on, calleeOf, withArgs, ↓reduceIte, reduceCtorEq, Nat.reduceLT, Nat.reduceAdd]
  refine acall_flat' (hr) rfl ?_
  try simp (maxSteps := 2000000) -implicitDefEqProofs only [zz, evop, ev, tget, tput, ok, V.isUndef, Ch.on, calleeOf, withArgs, ↓reduceIte, reduceCtorEq, Nat.reduceLT, Nat.reduceEqDiff]
  refine acall_flat' (hw0) rfl ?_
  try simp (maxSteps := 2000000) -implicitDefEqProofs only [zz, evop, ev, ofVal, tget, tput, ok, V.isUndef, intBin, guardOf, Ch.on, told, xport, xports, resOf, resV, resVs, ↓reduceIte, reduceCtorEq, Nat.reduceLT, Nat.reduceEqDiff, nilTest]
  by_cases v0 : v < 0
  · rw [if_pos (.inl v0)] at hS
    subst hS
    simp (maxSteps := 2000000) -implicitDefEqProofs only [zz, ↓reduceIte, v0]
  by_cases v1 : v > 2147483647
  · rw [if_pos (.inr (.inl v1))] at hS
    subst hS
    simp (maxSteps := 2000000) -implicitDefEqProofs only [zz, ↓reduceIte, v0, v1]
  simp (maxSteps := 2000000) -implicitDefEqProofs only [zz, ↓reduceIte, v0, v1]
  refine wloop_count t.length (fun i => [(11, .d (.int .i64 i)), (0, .d (.vec (t.map dW))), (1, .d (.int .i64 who)), (2, .d (.int .i64 v)), (10, .own 0 0 i)]) (fun i => [.dat false 2 (((setsL t L fun _ => (v, 0)).take i).map dW)]) (fun i => ∀ k < i, (k : Int) ∈ L → (recAt t k).1 < v) (fun k hk => by omega) ?_ (fun i hi hI => ?_) (fun hI => ?_)
  · first
    | exact Weak.pick [7] (by decide) (by simp) rfl (fun q hq => by
        simp only [List.mem_cons, List.not_mem_nil, or_false] at hq
        rcases hq with rfl | rfl | rfl | rfl | rfl <;> first | exact .same _ | exact .nils 0 2 rfl) (fun i hi => by
        match i, hi with
        | 0, _ => first | exact .dat _ _ _ rfl rfl | exact .virt 2 rfl rfl
        | i + 1, hi => exact absurd hi (by simp))
  · have hx : t[i]? = some (recAt t i) := recAt_get hi
    have h' : ((i : Int) < (t.length : Int)) := by omega
    have hw : IntKind.i64.wrap ((i : Int) + 1) = ((i + 1 : Nat) : Int) := by rw [wrap_in (by omega)]; omega
    have hT := setsL_take (L := L) (g := fun _ => (v, 0)) hi
    have hTl := setsL_takeLen (L := L) (g := fun _ => (v, 0)) (Nat.le_of_lt hi)
    have e6 : List.take i (((setsL t L fun _ => (v, 0)).take i).map dW) = ((setsL t L fun _ => (v, 0)).take i).map dW := by rw [List.take_of_length_le]; rw [List.length_map, hTl]; exact Nat.le_refl _
    have hm := hmem i (by omega) (by omega)
    have fin2 : ((i : Int) ∈ L → (recAt t i).1 < v) → ∀ k < i + 1, (k : Int) ∈ L → (recAt t k).1 < v := fun g k hk hkm => by
      by_cases e : k = i
      · subst e; exact g hkm
      · exact hI k (by omega) hkm
    generalize (setsL t L fun _ => (v, 0)).take i = A at hT hTl e6
    by_cases hq : (recAt t i).2 = who
    · have eq : ((recAt t i).2 != who) = false := by simpa using hq
      have hiL := hm.2 hq
      rw [if_pos hiL] at hT
      by_cases a1 : (recAt t i).1 ≥ v
      · rw [if_pos (.inr (.inr (List.any_eq_true.2 ⟨i, hiL, by simpa using a1⟩)))] at hS
        subst hS
        simp (maxSteps := 2000000) -implicitDefEqProofs only [zz, zE, evop, ev, ofVal, tget, tput, ok, V.isUndef, intBin, Ch.on, told, xport, xports, D.cells, loadD, structAt, sliceOf, lenOf, resOf, resV, resVs, ↓reduceIte, reduceCtorEq, Nat.reduceLT, Nat.reduceEqDiff, Nat.reduceAdd, nilTest, dW, h', List.getElem?_map, hx, Option.map_some, Int.natCast_nonneg, eq, a1]
      · simp (maxSteps := 2000000) -implicitDefEqProofs only [zz, zE, evop, ev, ofVal, tget, tput, ok, V.isUndef, intBin, Ch.on, told, hget, hput, V.cells, D.cells, V.one, V.clo, clos, V.toD, loadD, structAt, sliceOf, partsD, partsV, elems, lenOf, splice, ↓reduceIte, reduceCtorEq, Nat.reduceLT, Nat.reduceEqDiff, Nat.reduceAdd, Nat.reduceMul, Nat.reduceLeDiff, nilTest, dW, h', List.getElem?_map, hx, Option.map_some, Int.natCast_nonneg, eq, a1, hw]
        refine ⟨⟨by omega, okEl_W [(v, 0)]⟩, fin2 (fun _ => by omega), ?_⟩
        rw [hT, e6, List.map_append]
        first
        | exact Weak.pick [2] (by decide) (by simp) rfl (fun q hq => by
            simp only [List.mem_cons, List.not_mem_nil, or_false] at hq
            rcases hq with rfl | rfl | rfl | rfl | rfl <;> first | exact .same _ | exact .nils 0 2 rfl) (fun i hi => by
            match i, hi with
            | 0, _ => first | exact .dat _ _ _ rfl rfl | exact .virt 2 rfl rfl
            | i + 1, hi => exact absurd hi (by simp))
        | exact Weak.pick [1] (by decide) (by simp) rfl (fun q hq => by
            simp only [List.mem_cons, List.not_mem_nil, or_false] at hq
            rcases hq with rfl | rfl | rfl | rfl | rfl <;> first | exact .same _ | exact .nils 0 2 rfl) (fun i hi => by
            match i, hi with
            | 0, _ => first | exact .dat _ _ _ rfl rfl | exact .virt 2 rfl rfl
            | i + 1, hi => exact absurd hi (by simp))
        | exact Weak.pick [3] (by decide) (by simp) rfl (fun q hq => by
            simp only [List.mem_cons, List.not_mem_nil, or_false] at hq
            rcases hq with rfl | rfl | rfl | rfl | rfl <;> first | exact .same _ | exact .nils 0 2 rfl) (fun i hi => by
            match i, hi with
            | 0, _ => first | exact .dat _ _ _ rfl rfl | exact .virt 2 rfl rfl
            | i + 1, hi => exact absurd hi (by simp))
        | exact Weak.pick [4] (by decide) (by simp) rfl (fun q hq => by
            simp only [List.mem_cons, List.not_mem_nil, or_false] at hq
            rcases hq with rfl | rfl | rfl | rfl | rfl <;> first | exact .same _ | exact .nils 0 2 rfl) (fun i hi => by
            match i, hi with
            | 0, _ => first | exact .dat _ _ _ rfl rfl | exact .virt 2 rfl rfl
            | i + 1, hi => exact absurd hi (by simp))
    · have eq : ((recAt t i).2 != who) = true := by simpa using hq
      have hiL : ¬ (i : Int) ∈ L := fun g => hq (hm.1 g)
      rw [if_neg hiL] at hT
      simp (maxSteps := 2000000) -implicitDefEqProofs only [zz, zE, evop, ev, ofVal, tget, tput, ok, V.isUndef, intBin, Ch.on, told, hget, hput, V.cells, D.cells, V.one, V.toD, loadD, structAt, sliceOf, partsD, elems, lenOf, ↓reduceIte, reduceCtorEq, Nat.reduceLT, Nat.reduceEqDiff, Nat.reduceAdd, Nat.reduceMul, Nat.reduceLeDiff, nilTest, dW, h', List.getElem?_map, hx, Option.map_some, Int.natCast_nonneg, eq, hw]
      refine ⟨⟨by omega, okEl_W [recAt t i]⟩, fin2 (fun g => absurd g hiL), ?_⟩
      rw [hT, e6, List.map_append]
      first
      | exact Weak.pick [2] (by decide) (by simp) rfl (fun q hq => by
          simp only [List.mem_cons, List.not_mem_nil, or_false] at hq
          rcases hq with rfl | rfl | rfl | rfl | rfl <;> first | exact .same _ | exact .nils 0 2 rfl) (fun i hi => by
          match i, hi with
          | 0, _ => first | exact .dat _ _ _ rfl rfl | exact .virt 2 rfl rfl
          | i + 1, hi => exact absurd hi (by simp))
      | exact Weak.pick [1] (by decide) (by simp) rfl (fun q hq => by
          simp only [List.mem_cons, List.not_mem_nil, or_false] at hq
          rcases hq with rfl | rfl | rfl | rfl | rfl <;> first | exact .same _ | exact .nils 0 2 rfl) (fun i hi => by
          match i, hi with
          | 0, _ => first | exact .dat _ _ _ rfl rfl | exact .virt 2 rfl rfl
          | i + 1, hi => exact absurd hi (by simp))
      | exact Weak.pick [3] (by decide) (by simp) rfl (fun q hq => by
          simp only [List.mem_cons, List.not_mem_nil, or_false] at hq
          rcases hq with rfl | rfl | rfl | rfl | rfl <;> first | exact .same _ | exact .nils 0 2 rfl) (fun i hi => by
          match i, hi with
          | 0, _ => first | exact .dat _ _ _ rfl rfl | exact .virt 2 rfl rfl
          | i + 1, hi => exact absurd hi (by simp))
      | exact Weak.pick [4] (by decide) (by simp) rfl (fun q hq => by
          simp only [List.mem_cons, List.not_mem_nil, or_false] at hq
          rcases hq with rfl | rfl | rfl | rfl | rfl <;> first | exact .same _ | exact .nils 0 2 rfl) (fun i hi => by
          match i, hi with
          | 0, _ => first | exact .dat _ _ _ rfl rfl | exact .virt 2 rfl rfl
          | i + 1, hi => exact absurd hi (by simp))
  · have h' : ¬ ((t.length : Int) < (t.length : Int)) := by omega
    have hlen := setsL_len t L (fun _ => (v, 0))
    have hno : L.any (fun i => decide (v ≤ (recAt t i).1)) = false := by
      rw [List.any_eq_false]
      intro i hi
      obtain ⟨a, b⟩ := hsub i hi
      have e : ((i.toNat : Nat) : Int) = i := by omega
      have := hI i.toNat (by omega) (by rw [e]; exact hi)
      rw [e] at this
      simp; omega
    rw [if_neg (by rw [hno]; simp; omega)] at hS
    subst hS
    simp (maxSteps := 2000000) -implicitDefEqProofs only [zz, zE, evop, ev, ofVal, tget, tput, ok, V.isUndef, intBin, Ch.on, told, xport, xports, hget, sliceOf, lenOf, resOf, resV, resVs, ↓reduceIte, reduceCtorEq, Nat.reduceLT, Nat.reduceEqDiff, nilTest, h']
    rw [List.take_of_length_le (by simp [hlen]), List.take_of_length_le (by simp [hlen])]
end Go.Proofs.YtjhfpabldidlgaaGreat.AM

set_option linter.all false
set_option maxRecDepth 100000
set_option maxHeartbeats 8000000
namespace Go.Proofs.YtjhfpabldidlgaaGreat.AM
open Go Go.RowKit

theorem c_r05_one (r : Rd) (h : rightRd r = true) : CSpec Tryz.prog 190 [dRd r] (.bool true) := by
  simp only [rightRd, Bool.and_eq_true, decide_eq_true_eq] at h
  have h1 := c_r04_Right r.2.1
  have h2 := c_r01_Right r.2.2
  have hp : r.1 ≥ 0 := h.1.1
  rw [h.1.2] at h1
  rw [h.2] at h2
  refine CSpec.of_awp envOf_ok hmix Tryz.func190 rfl (fun args w => Tryz.call190 args w) (by simp [Tryz.f190]) ?_
  simp only [Tryz.f190]
  simp (maxSteps := 2000000) -implicitDefEqProofs only [zz, zE, evop, ev, ofVal, tget, tput, ok, V.isUndef, initT, Ch.on, hput, V.cells, ↓reduceIte, Nat.reduceLT, dRd]
  refine wdraw_plan [⟨[], false, [8, 9], [], false⟩, ⟨[0], false, [8, 9], [], false⟩, ⟨[0, 1], false, [8, 9], [], false⟩, ⟨[], false, [5, 6, 7], [0, 1, 2], false⟩, ⟨[3], false, [5, 6, 7], [0, 1, 2], false⟩, ⟨[0, 1, 2, 3, 4], true, [], [], false⟩, ⟨[0, 1, 2, 3, 4, 5], true, [], [], false⟩, ⟨[0, 1, 2, 3, 4, 5, 6], true, [], [], false⟩] (by decide) ?_
  try simp (maxSteps := 2000000) -implicitDefEqProofs only [zz, zE, evop, ev, ofVal, tget, tput, ok, V.isUndef, calleeOf, withArgs, hget, hput, D.cells, loadD, structAt, Blk.width, ↓reduceIte, reduceCtorEq, Nat.reduceLT, Nat.reduceEqDiff, Nat.reduceAdd, Nat.reduceLeDiff]
  refine dcall_flat' (h1) rfl ?_
  try skip
  refine acall_flat' (h2) rfl ?_
  try simp (maxSteps := 2000000) -implicitDefEqProofs only [zz, zE, evop, ev, ofVal, tget, tput, ok, V.isUndef, intBin, guardOf, Ch.on, xport, hget, structAt, Blk.width, resOf, resV, resVs, ↓reduceIte, reduceCtorEq, Nat.reduceLT, Nat.reduceEqDiff, Nat.reduceAdd, nilTest]
  try simp (maxSteps := 2000000) -implicitDefEqProofs only [zz, hp]

theorem c_r05_Right (l : List Rd) (h : readsR l = true) : CSpec Tryz.prog 148 [.vec (l.map dRd)] (.bool true) := by
  obtain ⟨p1, p2, p3⟩ := readsR_parts.1 h
  refine CSpec.of_awp envOf_ok hmix Tryz.func148 rfl (fun args w => Tryz.call148 args w) (by simp [Tryz.f148]) ?_
  simp only [Tryz.f148]
  simp (maxSteps := 2000000) -implicitDefEqProofs only [zz, evop, ev, ofVal, tput, ok, V.isUndef, initT, Ch.on, ↓reduceIte, Nat.reduceLT]
  refine wloop_count l.length (fun i => [(3, .d (.int .i64 i)), (0, .d (.vec (l.map dRd)))]) (fun _ => []) (fun _ => True) trivial (Weak.sub (by simp [tget])) (fun i hi _ => ?_) (fun _ => ?_)
  · have hx : l[i]? = some l[i] := List.getElem?_eq_getElem hi
    have h' : ((i : Int) < (l.length : Int)) := by omega
    have hw : IntKind.i64.wrap ((i : Int) + 1) = ((i + 1 : Nat) : Int) := by rw [wrap_in (by omega)]; omega
    have ho := c_r05_one l[i] (p1 _ (List.getElem_mem hi))
    have hne : ∀ k < i, ∀ z, l[k]? = some z → (z.1 == l[i].1) = false := fun k hk z hz => by
      rw [beq_eq_false_iff_ne]
      intro e
      have hz' := (List.getElem?_eq_some_iff.1 hz)
      obtain ⟨q, hq⟩ := hz'
      have := List.pairwise_iff_getElem.1 p2 k i (by simp; omega) (by simp; omega) hk
      simp only [List.getElem_map] at this
      rw [hq] at this
      exact this e
    generalize l[i] = x at hx ho hne
    unfold dRd at ho
    simp (maxSteps := 2000000) -implicitDefEqProofs only [zz, zE, evop, ev, tget, tput, ok, V.isUndef, intBin, Ch.on, calleeOf, withArgs, told, D.cells, loadD, sliceOf, lenOf, ↓reduceIte, reduceCtorEq, Nat.reduceLT, Nat.reduceEqDiff, Nat.reduceAdd, Nat.reduceLeDiff, nilTest, dRd, h', List.getElem?_map, hx, Option.map_some, Int.natCast_nonneg]
    refine acall_flat' (ho) rfl ?_
    try simp (maxSteps := 2000000) -implicitDefEqProofs only [zz, evop, ev, ofVal, tget, tput, ok, V.isUndef, Ch.on, told, ↓reduceIte, Nat.reduceLT]
    refine wloop_count i (fun k => [(5, .d (.int .i64 k)), (3, .d (.int .i64 i)), (0, .d (.vec (l.map dRd)))]) (fun _ => []) (fun _ => True) trivial (Weak.sub (by simp [tget])) (fun k hk _ => ?_) (fun _ => ?_)
    · obtain ⟨z, hz⟩ : ∃ z, l[k]? = some z := ⟨_, List.getElem?_eq_getElem (by omega)⟩
      have h2 : ((k : Int) < (i : Int)) := by omega
      have hwk : IntKind.i64.wrap ((k : Int) + 1) = ((k + 1 : Nat) : Int) := by rw [wrap_in (by omega)]; omega
      have hn := hne k hk z hz
      simp (maxSteps := 2000000) -implicitDefEqProofs only [zz, evop, ev, tget, tput, ok, V.isUndef, intBin, Ch.on, told, ↓reduceIte, Nat.reduceLT, Nat.reduceEqDiff, nilTest, h2]
      refine wdraw_plan [⟨[], false, [25, 29, 30, 31, 32, 33], [], false⟩, ⟨[], false, [24, 29, 30, 31, 32, 33], [0], false⟩, ⟨[0, 1], false, [29, 30, 31, 32, 33], [], false⟩, ⟨[0, 1, 2], false, [29, 30, 31, 32, 33], [], false⟩, ⟨[0, 1, 2, 3], false, [29, 30, 31, 32, 33], [], false⟩, ⟨[], false, [24, 25, 26, 27, 28, 30], [0, 1, 2, 3, 4], false⟩, ⟨[], false, [24, 25, 26, 27, 28, 29], [0, 1, 2, 3, 4, 5], false⟩, ⟨[5, 6], false, [24, 25, 26, 27, 28], [0, 1, 2, 3, 4], false⟩, ⟨[5, 6, 7], false, [24, 25, 26, 27, 28], [0, 1, 2, 3, 4], false⟩, ⟨[5, 6, 7, 8], false, [24, 25, 26, 27, 28], [0, 1, 2, 3, 4], false⟩, ⟨[0, 1, 2, 3, 4, 5, 6, 7, 8, 9], true, [], [], false⟩] (by decide) ?_
      simp (maxSteps := 2000000) -implicitDefEqProofs only [zz, zE, evop, ev, ofVal, tget, tput, ok, V.isUndef, intBin, Ch.on, told, hput, V.cells, D.cells, V.isAgg, loadD, structAt, Blk.width, ↓reduceIte, reduceCtorEq, Nat.reduceLT, Nat.reduceEqDiff, Nat.reduceAdd, Nat.reduceLeDiff, nilTest, dRd, List.getElem?_map, hx, hz, Option.map_some, Int.natCast_nonneg, hn, hwk]
      exact Weak.trims 0 rfl (by simp [tget, V.lower]) (by simp)
    · have h2 : ¬ ((i : Int) < (i : Int)) := by omega
      simp (maxSteps := 2000000) -implicitDefEqProofs only [zz, evop, ev, ofVal, tget, tput, ok, V.isUndef, intBin, Ch.on, told, ↓reduceIte, Nat.reduceLT, Nat.reduceEqDiff, nilTest, h2, hw]
      exact Weak.trims 0 rfl (by simp [tget, V.lower]) (by simp)
  · have h' : ¬ ((l.length : Int) < (l.length : Int)) := by omega
    have h2 : ((l.length : Int) < 25) := by omega
    simp (maxSteps := 2000000) -implicitDefEqProofs only [zz, zE, evop, ev, ofVal, tget, tput, ok, V.isUndef, intBin, Ch.on, told, xport, sliceOf, lenOf, resOf, resV, resVs, ↓reduceIte, reduceCtorEq, Nat.reduceLT, Nat.reduceEqDiff, nilTest, h', h2]

theorem c_r05_Valid (l : List Rd) (t : List (Int × Int)) (who : Int) (h0 : readsR l = true) (h1 : tableR t = true) (h3 : whoB who = true) : CSpec Tryz.prog 89 [.vec (l.map dRd), .vec (t.map dW), .int .i64 who] (.int .i64 (validR l t who)) := by
  obtain ⟨p1, p2, p3⟩ := readsR_parts.1 h0
  have htl := tableR_len h1
  have hr := c_r03_Right t (by omega)
  have hw0 := c_r03_Who who
  have hrd := c_r05_Right l h0
  have h3' : (decide (1 ≤ who) && decide (who ≤ 8)) = true := h3
  rw [h1] at hr
  rw [h3'] at hw0
  have hne : (t.length : Int) ≠ 0 := by omega
  have hv : validR l t who = if l.any (staleR t who) = true then 8 else 0 := by unfold validR; rw [h0, h1, h3]; rfl
  refine CSpec.of_awp envOf_ok hmix Tryz.func89 rfl (fun args w => Tryz.call89 args w) (by simp [Tryz.f89]) ?_
  simp only [Tryz.f89]
  simp (maxSteps := 2000000) -implicitDefEqProofs only [zz, evop, ev, ofVal, tget, tput, ok, V.isUndef, initT, Ch.on, calleeOf, withArgs, ↓reduceIte, reduceCtorEq, Nat.reduceLT, Nat.reduceAdd]
  refine acall_flat' (hrd) rfl ?_
  try simp (maxSteps := 2000000) -implicitDefEqProofs only [zz, evop, ev, tget, tput, ok, V.isUndef, Ch.on, calleeOf, withArgs, ↓reduceIte, reduceCtorEq, Nat.reduceLT, Nat.reduceEqDiff]
  refine acall_flat' (hr) rfl ?_
  try simp (maxSteps := 2000000) -implicitDefEqProofs only [zz, evop, ev, tget, tput, ok, V.isUndef, Ch.on, calleeOf, withArgs, ↓reduceIte, reduceCtorEq, Nat.reduceLT, Nat.reduceEqDiff]
  refine acall_flat' (hw0) rfl ?_
  try simp (maxSteps := 2000000) -implicitDefEqProofs only [zz, evop, ev, ofVal, tget, tput, ok, V.isUndef, guardOf, Ch.on, told, ↓reduceIte, Nat.reduceLT, Nat.reduceEqDiff]
  refine wloop_count l.length (fun i => [(10, .d (.int .i64 i)), (0, .d (.vec (l.map dRd))), (1, .d (.vec (t.map dW))), (2, .d (.int .i64 who))]) (fun _ => []) (fun i => ∀ k < i, ∀ x, l[k]? = some x → staleR t who x = false) (fun j hj => by omega) (Weak.sub (by simp [tget])) (fun i hi hI => ?_) (fun hI => ?_)
  · have hx : l[i]? = some l[i] := List.getElem?_eq_getElem hi
    have h' : ((i : Int) < (l.length : Int)) := by omega
    have hw : IntKind.i64.wrap ((i : Int) + 1) = ((i + 1 : Nat) : Int) := by rw [wrap_in (by omega)]; omega
    have hmem : l[i] ∈ l := List.getElem_mem hi
    have hrr := p1 _ hmem
    generalize l[i] = x at hx hmem hrr
    have hx0 : 0 ≤ x.1 := by simp [rightRd] at hrr; exact hrr.1.1
    have m0 : 0 ≤ x.1.tmod t.length := Int.tmod_nonneg _ hx0
    have m1 : x.1.tmod t.length < t.length := Int.tmod_lt_of_pos _ (by omega)
    have hr := recAt_int m0 m1
    obtain ⟨r1, r2, r3, r4⟩ := rec_ok h1 m0 m1
    have yes : staleR t who x = true → validR l t who = 8 := fun h => by rw [hv, if_pos (List.any_eq_true.2 ⟨x, hmem, h⟩)]
    have no : staleR t who x = false → ∀ k < i + 1, ∀ z, l[k]? = some z → staleR t who z = false := fun h k hk z hz => by
      by_cases e : k = i
      · subst e; rw [hx] at hz; cases hz; exact h
      · exact hI k (by omega) z hz
    simp (maxSteps := 2000000) -implicitDefEqProofs only [zz, zE, evop, ev, tget, tput, ok, V.isUndef, intBin, Ch.on, told, hget, hput, V.cells, D.cells, V.one, loadD, structAt, sliceOf, lenOf, splice, ↓reduceIte, reduceCtorEq, Nat.reduceLT, Nat.reduceEqDiff, Nat.reduceAdd, Nat.reduceLeDiff, nilTest, dW, dRd, h', List.getElem?_map, hx, hr, Option.map_some, Int.natCast_nonneg]
    refine ⟨hne, m0, ?_⟩
    refine wdraw_plan [⟨[], false, [47, 48, 49, 50, 51], [], false⟩, ⟨[0], false, [47, 48, 49, 50, 51], [], false⟩, ⟨[], false, [45, 46, 48], [0, 1], false⟩, ⟨[], false, [45, 46, 47], [0, 1, 2], false⟩, ⟨[2, 3], false, [45, 46], [0, 1], false⟩, ⟨[2, 3, 4], false, [45, 46], [0, 1], false⟩, ⟨[2, 3, 4, 5], false, [45, 46], [0, 1], false⟩, ⟨[0, 1, 2, 3, 4, 5, 6], true, [], [], false⟩] (by decide) ?_
    simp (maxSteps := 2000000) -implicitDefEqProofs only [zz, zE, evop, ev, ofVal, tget, tput, ok, V.isUndef, intBin, guardOf, Ch.on, told, xport, hget, hput, V.cells, D.cells, V.isAgg, loadD, structAt, Blk.width, resOf, resV, resVs, ↓reduceIte, reduceCtorEq, Nat.reduceLT, Nat.reduceEqDiff, Nat.reduceAdd, Nat.reduceLeDiff, nilTest, dRd, List.getElem?_map, hx, Option.map_some, Int.natCast_nonneg]
    have hst : staleR t who x = (((recAt t (x.1.tmod t.length)).1 != x.2.1) || (((recAt t (x.1.tmod t.length)).2 != 0) && ((recAt t (x.1.tmod t.length)).2 != who))) := rfl
    generalize recAt t (x.1.tmod t.length) = y at hr r1 r2 r3 r4 hst
    by_cases a1 : y.1 = x.2.1
    case neg =>
      have e1 : (y.1 != x.2.1) = true := by simpa using a1
      rw [yes (by rw [hst, e1, Bool.true_or])]
      simp (maxSteps := 2000000) -implicitDefEqProofs only [↓reduceIte, e1]
    have e1 : (y.1 != x.2.1) = false := by simpa using a1
    by_cases a2 : y.2 > 0
    case neg =>
      have e2 : (y.2 != 0) = false := by simp; omega
      simp (maxSteps := 2000000) -implicitDefEqProofs only [zz, ↓reduceIte, e1, a2, hw]
      exact ⟨no (by rw [hst, e1, e2]; rfl), Weak.trims 0 rfl (by simp [tget, V.lower]) (by simp)⟩
    have e2 : (y.2 != 0) = true := by simp; omega
    by_cases a3 : y.2 = who
    · have e3 : (y.2 != who) = false := by simpa using a3
      simp (maxSteps := 2000000) -implicitDefEqProofs only [zz, ↓reduceIte, e1, a2, e3, hw]
      exact ⟨no (by rw [hst, e1, e3]; simp), Weak.trims 0 rfl (by simp [tget, V.lower]) (by simp)⟩
    · have e3 : (y.2 != who) = true := by simpa using a3
      rw [yes (by rw [hst, e1, e2, e3]; rfl)]
      simp (maxSteps := 2000000) -implicitDefEqProofs only [zz, ↓reduceIte, e1, a2, e3]
  · have h' : ¬ ((l.length : Int) < (l.length : Int)) := by omega
    have hany : l.any (staleR t who) = false := by
      rw [List.any_eq_false]
      intro x hx
      obtain ⟨k, hk, rfl⟩ := List.getElem_of_mem hx
      have := hI k hk _ (List.getElem?_eq_getElem hk)
      simp [this]
    rw [hv, hany, if_neg (by decide)]
    simp (maxSteps := 2000000) -implicitDefEqProofs only [zz, zE, evop, ev, ofVal, tget, tput, ok, V.isUndef, intBin, Ch.on, told, xport, sliceOf, lenOf, resOf, resV, resVs, ↓reduceIte, reduceCtorEq, Nat.reduceLT, Nat.reduceEqDiff, nilTest, h']

theorem c_r02_set (h : List (Bool × Int)) (n : Int) (c : Bool × Int) (hn : 0 ≤ n) (hl : h.length ≤ 1000000) : CSpec Tryz.prog 149 [.vec (h.map dC), .int .i64 n, dC c] (.vec ((h.set n.toNat c).map dC)) := by
  have hlen : (h.set n.toNat c).length = h.length := List.length_set
  have hgt : ∀ i < h.length, (h.set n.toNat c)[i]? = if (i : Int) = n then some c else h[i]? := fun i hi => by
    by_cases e : (i : Int) = n
    · have : n.toNat = i := by omega
      rw [if_pos e, this, List.getElem?_set_self hi]
    · rw [if_neg e, List.getElem?_set_ne (by omega)]
  generalize h.set n.toNat c = y at hlen hgt ⊢
  refine CSpec.of_awp envOf_ok hmix Tryz.func149 rfl (fun args w => Tryz.call149 args w) (by simp [Tryz.f149]) ?_
  simp only [Tryz.f149]
  simp (maxSteps := 2000000) -implicitDefEqProofs only [zz, zE, evop, ev, ofVal, tget, tput, ok, V.isUndef, initT, Ch.on, hput, V.cells, ↓reduceIte, reduceCtorEq, Nat.reduceLT, Nat.reduceEqDiff, Nat.reduceAdd, dC]
  unfold dC
  try skip
  refine wloop_count h.length (fun i => [(8, .d (.int .i64 i)), (0, .d (.vec (h.map dC))), (1, .d (.int .i64 n)), (5, .d (.imm (dC c) 0)), (7, .own 0 0 i)]) (fun i => [.dat false 2 ((y.take i).map dC)]) (fun _ => True) trivial ?_ (fun i hi _ => ?_) (fun _ => ?_)
  · refine Weak.trans' (T2 := [(8, .d (.int .i64 0)), (0, .d (.vec (h.map dC))), (1, .d (.int .i64 n)), (5, .ptr 0 0 0), (7, .own 1 0 0)]) (H2 := [.box false [.d (.bool c.1), .d (.int .i64 c.2)], .dat false 2 []]) ?_ (Weak.trans' (Weak.sealed (T' := [(8, .d (.int .i64 0)), (0, .d (.vec (h.map dC))), (1, .d (.int .i64 n)), (5, .d (.imm (dC c) 0)), (7, .own 1 0 0)]) [0] (by simp [tget, sealF, hget, xport, xports, tids, tidss, dC])) ?_)
    · refine Weak.pick [0, 9] (by decide) (by simp) rfl (fun q hq => ?_) (fun i hi => ?_)
      · simp only [List.mem_cons, List.not_mem_nil, or_false] at hq
        rcases hq with rfl | rfl | rfl | rfl | rfl <;> first | exact .same _ | exact .nils 1 2 rfl
      · match i, hi with
        | 0, _ => exact .box false _ _ rfl rfl (.cons (.same _) (.cons (.same _) .nil))
        | 1, _ => exact .virt 2 rfl rfl
        | i + 2, hi => exact absurd hi (by simp)
    · simp only [sealH, AM.freeze, hput, hget, Blk.ice, List.map_cons, List.map_nil, sealB, sealF, List.take_zero]
      first
      | exact Weak.pick [1] (by decide) (by simp) rfl (fun q hq => by
          simp only [List.mem_cons, List.not_mem_nil, or_false] at hq
          rcases hq with rfl | rfl | rfl | rfl | rfl <;> first | exact .same _ | exact .nils 0 2 rfl) (fun i hi => by
          match i, hi with
          | 0, _ => first | exact .dat _ _ _ rfl rfl | exact .virt 2 rfl rfl
          | i + 1, hi => exact absurd hi (by simp))
  · have hx : h[i]? = some h[i] := List.getElem?_eq_getElem hi
    have h' : ((i : Int) < (h.length : Int)) := by omega
    have hw : IntKind.i64.wrap ((i : Int) + 1) = ((i + 1 : Nat) : Int) := by rw [wrap_in (by omega)]; omega
    have hg := hgt i hi
    have hT : y.take (i + 1) = y.take i ++ (y[i]?).toList := List.take_succ
    have hTl : (y.take i).length = i := by rw [List.length_take]; omega
    have e6 : List.take i ((y.take i).map dC) = (y.take i).map dC := by rw [List.take_of_length_le]; rw [List.length_map, hTl]; exact Nat.le_refl _
    by_cases hq : (i : Int) = n
    · have eq : ((i : Int) == n) = true := by simpa using hq
      rw [if_pos hq] at hg
      rw [hg] at hT
      simp (maxSteps := 2000000) -implicitDefEqProofs only [zz, zE, evop, ev, ofVal, tget, tput, ok, V.isUndef, intBin, Ch.on, told, hget, hput, V.cells, D.cells, V.one, V.toD, loadD, sliceOf, partsD, elems, lenOf, ↓reduceIte, reduceCtorEq, Nat.reduceLT, Nat.reduceEqDiff, Nat.reduceAdd, Nat.reduceMul, Nat.reduceLeDiff, nilTest, dC, h', eq, hw, dC]
      refine ⟨⟨by omega, okEl_C [c]⟩, ?_⟩
      rw [hT, e6, Option.toList, List.map_append]
      first
      | exact Weak.pick [2] (by decide) (by simp) rfl (fun q hq => by
          simp only [List.mem_cons, List.not_mem_nil, or_false] at hq
          rcases hq with rfl | rfl | rfl | rfl | rfl <;> first | exact .same _ | exact .nils 0 2 rfl) (fun i hi => by
          match i, hi with
          | 0, _ => first | exact .dat _ _ _ rfl rfl | exact .virt 2 rfl rfl
          | i + 1, hi => exact absurd hi (by simp))
      | exact Weak.pick [1] (by decide) (by simp) rfl (fun q hq => by
          simp only [List.mem_cons, List.not_mem_nil, or_false] at hq
          rcases hq with rfl | rfl | rfl | rfl | rfl <;> first | exact .same _ | exact .nils 0 2 rfl) (fun i hi => by
          match i, hi with
          | 0, _ => first | exact .dat _ _ _ rfl rfl | exact .virt 2 rfl rfl
          | i + 1, hi => exact absurd hi (by simp))
      | exact Weak.pick [3] (by decide) (by simp) rfl (fun q hq => by
          simp only [List.mem_cons, List.not_mem_nil, or_false] at hq
          rcases hq with rfl | rfl | rfl | rfl | rfl <;> first | exact .same _ | exact .nils 0 2 rfl) (fun i hi => by
          match i, hi with
          | 0, _ => first | exact .dat _ _ _ rfl rfl | exact .virt 2 rfl rfl
          | i + 1, hi => exact absurd hi (by simp))
      | exact Weak.pick [4] (by decide) (by simp) rfl (fun q hq => by
          simp only [List.mem_cons, List.not_mem_nil, or_false] at hq
          rcases hq with rfl | rfl | rfl | rfl | rfl <;> first | exact .same _ | exact .nils 0 2 rfl) (fun i hi => by
          match i, hi with
          | 0, _ => first | exact .dat _ _ _ rfl rfl | exact .virt 2 rfl rfl
          | i + 1, hi => exact absurd hi (by simp))
    · have eq : ((i : Int) == n) = false := by simpa using hq
      rw [if_neg hq, hx] at hg
      rw [hg] at hT
      simp (maxSteps := 2000000) -implicitDefEqProofs only [zz, zE, evop, ev, ofVal, tget, tput, ok, V.isUndef, intBin, Ch.on, told, hget, hput, V.cells, D.cells, V.one, V.toD, loadD, sliceOf, partsD, elems, lenOf, ↓reduceIte, reduceCtorEq, Nat.reduceLT, Nat.reduceEqDiff, Nat.reduceAdd, Nat.reduceMul, Nat.reduceLeDiff, nilTest, dC, h', eq, List.getElem?_map, hx, Option.map_some, Int.natCast_nonneg, hw]
      refine ⟨⟨by omega, okEl_C [h[i]]⟩, ?_⟩
      rw [hT, e6, Option.toList, List.map_append]
      first
      | exact Weak.pick [2] (by decide) (by simp) rfl (fun q hq => by
          simp only [List.mem_cons, List.not_mem_nil, or_false] at hq
          rcases hq with rfl | rfl | rfl | rfl | rfl <;> first | exact .same _ | exact .nils 0 2 rfl) (fun i hi => by
          match i, hi with
          | 0, _ => first | exact .dat _ _ _ rfl rfl | exact .virt 2 rfl rfl
          | i + 1, hi => exact absurd hi (by simp))
      | exact Weak.pick [1] (by decide) (by simp) rfl (fun q hq => by
          simp only [List.mem_cons, List.not_mem_nil, or_false] at hq
          rcases hq with rfl | rfl | rfl | rfl | rfl <;> first | exact .same _ | exact .nils 0 2 rfl) (fun i hi => by
          match i, hi with
          | 0, _ => first | exact .dat _ _ _ rfl rfl | exact .virt 2 rfl rfl
          | i + 1, hi => exact absurd hi (by simp))
      | exact Weak.pick [3] (by decide) (by simp) rfl (fun q hq => by
          simp only [List.mem_cons, List.not_mem_nil, or_false] at hq
          rcases hq with rfl | rfl | rfl | rfl | rfl <;> first | exact .same _ | exact .nils 0 2 rfl) (fun i hi => by
          match i, hi with
          | 0, _ => first | exact .dat _ _ _ rfl rfl | exact .virt 2 rfl rfl
          | i + 1, hi => exact absurd hi (by simp))
      | exact Weak.pick [4] (by decide) (by simp) rfl (fun q hq => by
          simp only [List.mem_cons, List.not_mem_nil, or_false] at hq
          rcases hq with rfl | rfl | rfl | rfl | rfl <;> first | exact .same _ | exact .nils 0 2 rfl) (fun i hi => by
          match i, hi with
          | 0, _ => first | exact .dat _ _ _ rfl rfl | exact .virt 2 rfl rfl
          | i + 1, hi => exact absurd hi (by simp))
  · have h' : ¬ ((h.length : Int) < (h.length : Int)) := by omega
    simp (maxSteps := 2000000) -implicitDefEqProofs only [zz, zE, evop, ev, tget, tput, ok, V.isUndef, intBin, Ch.on, told, xport, hget, sliceOf, lenOf, resOf, resV, resVs, ↓reduceIte, reduceCtorEq, Nat.reduceLT, Nat.reduceEqDiff, nilTest, dC, h']
    rw [List.take_of_length_le (by simp [hlen]), List.take_of_length_le (by simp [hlen])]
    rfl

theorem setH_live (o : List (Bool × Int)) (w : Int × Int) : (setH o w).map (fun x => x.1) = o.map (fun x => x.1) := by
  refine List.ext_getElem? (fun k => ?_)
  unfold setH
  rw [List.getElem?_map, List.getElem?_map]
  rcases Nat.lt_or_ge k o.length with h | h
  · by_cases e : w.1.toNat = k
    · subst e
      rw [List.getElem?_set_self h, List.getElem?_eq_getElem h]; rfl
    · rw [List.getElem?_set_ne e]
  · rw [List.getElem?_eq_none (by rw [List.length_set]; exact h), List.getElem?_eq_none h]
theorem putsH_live (h : List (Bool × Int)) (ws : List (Int × Int)) : (putsH h ws).map (fun x => x.1) = h.map (fun x => x.1) := by
  unfold putsH
  induction ws generalizing h with
  | nil => rfl
  | cons w r ih => rw [List.foldl_cons, ih, setH_live]

theorem c_r02_Put (h : List (Bool × Int)) (ws : List (Int × Int)) (h1 : heapR h = true) (h2 : ∀ w ∈ ws, spanR w.2 = true) (hl : ws.length ≤ 1000000) : CSpec Tryz.prog 90 [.vec (h.map dC), .vec (ws.map dW)] (.tuple [.vec ((heapPut h ws).1.map dC), .int .i64 (heapPut h ws).2]) := by
  have hhl : 1 ≤ h.length ∧ h.length ≤ 64 := by have := h1; simp [heapR] at this; omega
  have hr := c_r02_Right h (by omega)
  rw [h1] at hr
  have hany : ws.any (fun w => !spanR w.2) = false := by
    rw [List.any_eq_false]
    intro w hw
    simp [h2 w hw]
  have hY : heapPut h ws = if ws.all (fun w => thereB h w.1) = true then (putsH h ws, 0) else (h, 3) := by unfold heapPut; rw [if_pos ⟨h1, hany⟩]
  generalize heapPut h ws = y at hY ⊢
  refine CSpec.of_awp envOf_ok hmix Tryz.func90 rfl (fun args w => Tryz.call90 args w) (by simp [Tryz.f90]) ?_
  simp only [Tryz.f90]
  simp (maxSteps := 2000000) -implicitDefEqProofs only [zz, evop, ev, ofVal, tget, tput, ok, V.isUndef, initT, Ch.on, calleeOf, withArgs, ↓reduceIte, reduceCtorEq, Nat.reduceLT]
  refine acall_flat' (hr) rfl ?_
  try simp (maxSteps := 2000000) -implicitDefEqProofs only [zz, evop, ev, ofVal, tget, tput, ok, V.isUndef, Ch.on, ↓reduceIte, Nat.reduceLT]
  refine wloop_count ws.length (fun i => [(7, .d (.int .i64 i)), (6, .d (.bool true)), (0, .d (.vec (h.map dC))), (1, .d (.vec (ws.map dW)))]) (fun _ => []) (fun _ => True) trivial (Weak.sub (by simp [tget])) (fun i hi _ => ?_) (fun _ => ?_)
  · have hx : ws[i]? = some ws[i] := List.getElem?_eq_getElem hi
    have h' : ((i : Int) < (ws.length : Int)) := by omega
    have hw : IntKind.i64.wrap ((i : Int) + 1) = ((i + 1 : Nat) : Int) := by rw [wrap_in (by omega)]; omega
    have ho := c_r01_Right ws[i].2
    rw [h2 _ (List.getElem_mem hi)] at ho
    generalize ws[i] = x at hx ho
    simp (maxSteps := 2000000) -implicitDefEqProofs only [zz, zE, evop, ev, tget, tput, ok, V.isUndef, intBin, Ch.on, calleeOf, withArgs, told, D.cells, loadD, structAt, sliceOf, lenOf, ↓reduceIte, reduceCtorEq, Nat.reduceLT, Nat.reduceEqDiff, Nat.reduceAdd, nilTest, dW, h', List.getElem?_map, hx, Option.map_some, Int.natCast_nonneg]
    refine acall_flat' (ho) rfl ?_
    try simp (maxSteps := 2000000) -implicitDefEqProofs only [zz, evop, ev, ofVal, tget, tput, ok, V.isUndef, intBin, guardOf, Ch.on, ↓reduceIte, Nat.reduceLT, Nat.reduceEqDiff, nilTest]
    try simp (maxSteps := 2000000) -implicitDefEqProofs only [hw]
    exact Weak.trims 0 rfl (by simp [tget, V.lower, hw]) (by simp)
  · have h' : ¬ ((ws.length : Int) < (ws.length : Int)) := by omega
    simp (maxSteps := 2000000) -implicitDefEqProofs only [zz, zE, evop, ev, ofVal, tget, tput, ok, V.isUndef, intBin, Ch.on, told, sliceOf, lenOf, ↓reduceIte, reduceCtorEq, Nat.reduceLT, Nat.reduceEqDiff, nilTest, h']
    refine wloop_count ws.length (fun i => [(10, .d (.int .i64 i)), (9, .d (.vec ((putsH h (ws.take i)).map dC))), (0, .d (.vec (h.map dC))), (1, .d (.vec (ws.map dW)))]) (fun _ => []) (fun i => ∀ w ∈ ws.take i, thereB h w.1 = true) (by simp) (Weak.sub (by simp [tget, putsH])) (fun i hi hI => ?_) (fun hI => ?_)
    · have hx : ws[i]? = some ws[i] := List.getElem?_eq_getElem hi
      have h' : ((i : Int) < (ws.length : Int)) := by omega
      have hw : IntKind.i64.wrap ((i : Int) + 1) = ((i + 1 : Nat) : Int) := by rw [wrap_in (by omega)]; omega
      have hT : ws.take (i + 1) = ws.take i ++ [ws[i]] := by rw [List.take_succ, hx]; rfl
      have hP := putsH_snoc h (ws.take i) ws[i]
      have hL := putsH_len h (ws.take i)
      have hV := putsH_live h (ws.take i)
      have hm := List.getElem_mem hi
      rw [← hT] at hP
      have ho := c_r02_Live h ws[i].1 (by omega)
      generalize putsH h (ws.take (i + 1)) = B at hP
      generalize putsH h (ws.take i) = A at hP hL hV
      generalize ws[i] = x at hx ho hT hP hm
      cases ht : thereB h x.1 with
      | false =>
        rw [ht] at ho
        rw [if_neg (by intro g; have := List.all_eq_true.1 g _ hm; rw [ht] at this; cases this)] at hY
        subst hY
        simp (maxSteps := 2000000) -implicitDefEqProofs only [zz, zE, evop, ev, tget, tput, ok, V.isUndef, intBin, Ch.on, calleeOf, withArgs, told, D.cells, loadD, structAt, sliceOf, lenOf, ↓reduceIte, reduceCtorEq, Nat.reduceLT, Nat.reduceEqDiff, Nat.reduceAdd, nilTest, dW, h', List.getElem?_map, hx, Option.map_some, Int.natCast_nonneg]
        refine acall_flat' (ho) rfl ?_
        try simp (maxSteps := 2000000) -implicitDefEqProofs only [zz, evop, ev, ofVal, tget, tput, ok, V.isUndef, Ch.on, told, xport, xports, resOf, resV, resVs, ↓reduceIte, reduceCtorEq, Nat.reduceLT, Nat.reduceEqDiff]
      | true =>
        rw [ht] at ho
        obtain ⟨k, v, hk, hkl, hkg⟩ := thereB_get ht
        have hA : A[k]? = some (A[k]'(by omega)) := List.getElem?_eq_getElem (by omega)
        have hA1 : (A[k]'(by omega)).1 = true := by
          have := congrArg (fun l => l[k]?) hV
          simp only [List.getElem?_map, hA, hkg, Option.map_some, Option.some.injEq] at this
          exact this
        have hB : B = A.set x.1.toNat (true, x.2) := by
          rw [hP]
          unfold setH
          have e : x.1.toNat = k := by omega
          rw [e, hA]
          simp [hA1]
        have hs := c_r02_set A x.1 (true, x.2) (by omega) (by omega)
        rw [← hB] at hs
        simp only [dC] at hs
        simp (maxSteps := 2000000) -implicitDefEqProofs only [zz, zE, evop, ev, tget, tput, ok, V.isUndef, intBin, Ch.on, calleeOf, withArgs, told, D.cells, loadD, structAt, sliceOf, lenOf, ↓reduceIte, reduceCtorEq, Nat.reduceLT, Nat.reduceEqDiff, Nat.reduceAdd, nilTest, dW, h', List.getElem?_map, hx, Option.map_some, Int.natCast_nonneg]
        refine acall_flat' (ho) rfl ?_
        try simp (maxSteps := 2000000) -implicitDefEqProofs only [zz, evop, ev, tget, tput, ok, V.isUndef, Ch.on, told, ↓reduceIte, Nat.reduceLT]
        refine wdraw_plan [⟨[], false, [51, 52, 53, 54, 55, 56, 57, 58, 59, 60, 61], [], false⟩, ⟨[], false, [50, 52, 56, 57, 58, 59, 60, 61], [0], false⟩, ⟨[], false, [50, 51, 56, 57, 58, 59, 60, 61], [0, 1], false⟩, ⟨[1, 2], false, [50, 56, 57, 58, 59, 60, 61], [0], false⟩, ⟨[1, 2, 3], false, [50, 56, 57, 58, 59, 60, 61], [0], false⟩, ⟨[1, 2, 3, 4], false, [50, 56, 57, 58, 59, 60, 61], [0], false⟩, ⟨[], false, [50, 51, 52, 53, 54, 55, 57], [0, 1, 2, 3, 4, 5], false⟩, ⟨[], false, [50, 51, 52, 53, 54, 55, 56], [0, 1, 2, 3, 4, 5, 6], false⟩, ⟨[6, 7], false, [50, 51, 52, 53, 54, 55], [0, 1, 2, 3, 4, 5], false⟩, ⟨[6, 7, 8], false, [50, 51, 52, 53, 54, 55], [0, 1, 2, 3, 4, 5], false⟩, ⟨[6, 7, 8, 9], false, [50, 51, 52, 53, 54, 55], [0, 1, 2, 3, 4, 5], false⟩, ⟨[6, 7, 8, 9, 10], false, [50, 51, 52, 53, 54, 55], [0, 1, 2, 3, 4, 5], false⟩, ⟨[0, 1, 2, 3, 4, 5, 6, 7, 8, 9, 10, 11], true, [], [], false⟩, ⟨[0, 1, 2, 3, 4, 5, 6, 7, 8, 9, 10, 11, 12], true, [], [], false⟩] (by decide) ?_
        simp (maxSteps := 2000000) -implicitDefEqProofs only [zz, zE, evop, ev, ofVal, tget, tput, ok, V.isUndef, calleeOf, withArgs, hput, V.cells, D.cells, loadD, structAt, partsV, Blk.width, splice, ↓reduceIte, reduceCtorEq, Nat.reduceLT, Nat.reduceEqDiff, Nat.reduceAdd, Nat.reduceLeDiff, dW, List.getElem?_map, hx, Option.map_some, Int.natCast_nonneg]
        refine acall_ice' (hs) ?_
        try simp (maxSteps := 2000000) -implicitDefEqProofs only [zz, evop, ev, ofVal, tget, tput, ok, V.isUndef, intBin, Ch.on, tids, tidss, freeze, ↓reduceIte, Nat.reduceLT, Nat.reduceEqDiff, Nat.reduceAdd, nilTest]
        try simp (maxSteps := 2000000) -implicitDefEqProofs only [hw]
        refine ⟨fun w hw' => ?_, Weak.trims 0 rfl (by simp [tget, V.lower, hw, dC]) (by simp)⟩
        rw [hT] at hw'
        rcases List.mem_append.1 hw' with g | g
        · exact hI w g
        · simp at g; subst g; exact ht
    · have h' : ¬ ((ws.length : Int) < (ws.length : Int)) := by omega
      rw [List.take_length] at hI ⊢
      rw [if_pos (List.all_eq_true.2 hI)] at hY
      subst hY
      simp (maxSteps := 2000000) -implicitDefEqProofs only [zz, zE, evop, ev, ofVal, tget, tput, ok, V.isUndef, intBin, Ch.on, told, xport, xports, sliceOf, lenOf, resOf, resV, resVs, ↓reduceIte, reduceCtorEq, Nat.reduceLT, Nat.reduceEqDiff, nilTest, h']
end Go.Proofs.YtjhfpabldidlgaaGreat.AM

set_option linter.all false
set_option maxRecDepth 100000
set_option maxHeartbeats 4000000
namespace Go.Proofs.YtjhfpabldidlgaaGreat.AM
open Go Go.RowKit

theorem getW_snoc' (zs : List (Int × Int)) (w : Int × Int) (c : Int) : getW (zs ++ [w]) c = if w.1 = c then (w.2, true) else getW zs c := by
  unfold getW
  rw [List.reverse_append, List.reverse_singleton, List.singleton_append, List.find?_cons]
  by_cases h : w.1 = c
  · simp [h]
  · have : (w.1 == c) = false := by simpa using h
    simp [this, h]

theorem logR_nonneg {L : Lg} (h : logR L = true) : ∀ w ∈ L.1, 0 ≤ w.1 := by
  simp only [logR, Bool.and_eq_true, decide_eq_true_eq, Bool.not_eq_eq_eq_not, Bool.not_true, List.any_eq_false] at h
  intro w hw
  have := h.1.1.2 w hw
  simp [wrongW] at this
  omega

theorem c_r06_Get (l : Lg) (c : Int) (h1 : l.1.length ≤ 1000000) : CSpec Tryz.prog 123 [dLg l, .int .i64 c] (.tuple [.int .i64 (getW l.1 c).1, .bool (getW l.1 c).2]) := by
  refine CSpec.of_awp envOf_ok hmix Tryz.func123 rfl (fun args w => Tryz.call123 args w) (by simp [Tryz.f123]) ?_
  simp only [Tryz.f123]
  simp (maxSteps := 2000000) -implicitDefEqProofs only [zz, zE, evop, ev, ofVal, tget, tput, ok, V.isUndef, initT, Ch.on, hput, V.cells, ↓reduceIte, Nat.reduceLT, dLg]
  refine wloop_count l.1.length (fun i => [(8, .d (.int .i64 i)), (6, .d (.int .i64 (getW (l.1.take i) c).1)), (7, .d (.bool (getW (l.1.take i) c).2)), (1, .d (.int .i64 c)), (2, .ptr 0 0 0)]) (fun _ => [bLg l]) (fun i => True) trivial (Weak.sub (by simp [tget, getW])) (fun i hi _ => ?_) (fun _ => ?_)
  · have hx : l.1[i]? = some l.1[i] := List.getElem?_eq_getElem hi
    have h' : ((i : Int) < (l.1.length : Int)) := by omega
    have hw : IntKind.i64.wrap ((i : Int) + 1) = ((i + 1 : Nat) : Int) := by rw [wrap_in (by omega)]; omega
    have ht : l.1.take (i + 1) = l.1.take i ++ [l.1[i]] := by rw [List.take_succ, hx]; rfl
    have hg := getW_snoc' (l.1.take i) l.1[i] c
    rw [← ht] at hg
    simp (maxSteps := 2000000) -implicitDefEqProofs only [zz, zE, evop, ev, ofVal, tget, tput, ok, V.isUndef, intBin, Ch.on, told, hget, D.cells, loadD, structAt, sliceOf, Blk.width, lenOf, ↓reduceIte, reduceCtorEq, Nat.reduceLT, Nat.reduceEqDiff, Nat.reduceAdd, nilTest, dW, h', bLg, List.getElem?_map, hx, Option.map_some, Int.natCast_nonneg]
    split
    · rename_i e
      have e' : l.1[i].1 = c := by simpa using e
      rw [if_pos e'] at hg
      exact Weak.sub (by simp [tget, hw, hg])
    · rename_i e
      have e' : ¬ l.1[i].1 = c := by simpa using e
      rw [if_neg e'] at hg
      exact Weak.sub (by simp [tget, hw, hg])
  · have h' : ¬ ((l.1.length : Int) < (l.1.length : Int)) := by omega
    simp (maxSteps := 2000000) -implicitDefEqProofs only [zz, zE, evop, ev, tget, tput, ok, V.isUndef, intBin, Ch.on, told, xport, xports, hget, structAt, sliceOf, Blk.width, lenOf, resOf, resV, resVs, ↓reduceIte, reduceCtorEq, Nat.reduceLT, Nat.reduceEqDiff, Nat.reduceAdd, nilTest, h', bLg]
    simp

def ltW (x y : Int × Int) : Bool := decide (cmpI x.1 y.1 < 0)
def qW (a b : Int × Int) : Bool := a.1 == b.1
def pW (c : Int) (p : Int × Int) : Bool := p.1 == c
theorem ltW_eq (x y : Int × Int) : ltW x y = decide (x.1 < y.1) := by simp [ltW, cmpI_lt]
theorem ltW_nt (x y z : Int × Int) (h1 : ltW x y = false) (h2 : ltW y z = false) : ltW x z = false := by
  rw [ltW_eq, decide_eq_false_iff_not] at *; omega
theorem ltW_as (x y : Int × Int) (h : ltW x y = true) : ltW y x = false := by
  rw [ltW_eq] at *; simp at *; omega
theorem lastW_eq (ws : List (Int × Int)) : lastW ws = cmpct qW (isort ltW ws.reverse) := rfl

theorem or_assoc' {α : Type} (a b c : Option α) : (a.or b).or c = a.or (b.or c) := by cases a <;> rfl

theorem find_insR (c : Int) (x : Int × Int) {A : List (Int × Int)} (h : PW ltW A) : (insR ltW x A).find? (pW c) = (A.find? (pW c)).or (if pW c x = true then some x else none) := by
  obtain ⟨l1, l2, rfl, g1, g2⟩ := cut_at ltW_nt h x
  rw [insR_cut g1 g2, List.find?_append, List.find?_append, List.find?_cons]
  cases hp : pW c x with
  | true =>
    have : l2.find? (pW c) = none := by
      rw [List.find?_eq_none]
      intro y hy
      have := g2 y hy
      rw [ltW_eq] at this
      simp only [pW, beq_iff_eq] at *
      simp at this
      omega
    rw [this]; simp
  | false => simp

theorem find_isort (c : Int) (l : List (Int × Int)) : (isort ltW l).find? (pW c) = l.find? (pW c) := by
  have : ∀ (l A : List (Int × Int)), PW ltW A → (l.foldl (fun A x => insR ltW x A) A).find? (pW c) = (A.find? (pW c)).or (l.find? (pW c)) := by
    intro l
    induction l with
    | nil => intro A _; simp
    | cons x r ih =>
      intro A h
      rw [List.foldl_cons, ih _ (insR_pw ltW_nt ltW_as h x), find_insR c x h, or_assoc', List.find?_cons]
      congr 1
      cases pW c x <;> rfl
  have h := this l [] List.Pairwise.nil
  simpa [isort] using h

theorem find_cmpctGo (c : Int) : ∀ (r : List (Int × Int)) (y : Int × Int), pW c y = false → (cmpctGo qW y r).find? (pW c) = r.find? (pW c)
  | [], y, _ => rfl
  | z :: r, y, h => by
    simp only [cmpctGo]
    cases hq : qW z y with
    | true =>
      have hz : pW c z = false := by simp only [qW, pW, beq_iff_eq, beq_eq_false_iff_ne] at *; omega
      rw [cond_true, find_cmpctGo c r z hz, List.find?_cons, hz]
    | false =>
      rw [cond_false, List.find?_cons, List.find?_cons]
      cases hz : pW c z with
      | true => rfl
      | false => exact find_cmpctGo c r z hz

theorem find_cmpct (c : Int) (l : List (Int × Int)) : (cmpct qW l).find? (pW c) = l.find? (pW c) := by
  cases l with
  | nil => rfl
  | cons x r =>
    simp only [cmpct, List.find?_cons]
    cases hx : pW c x with
    | true => rfl
    | false => exact find_cmpctGo c r x hx

theorem find_lastW (c : Int) (ws : List (Int × Int)) : (lastW ws).find? (pW c) = ws.reverse.find? (pW c) := by
  rw [lastW_eq, find_cmpct, find_isort]

def UpW (l : List (Int × Int)) : Prop := l.Pairwise (fun x y => x.1 < y.1)

theorem up_cmpctGo : ∀ (r : List (Int × Int)) (y : Int × Int), PW ltW (y :: r) → UpW (y :: cmpctGo qW y r)
  | [], y, _ => by simp [cmpctGo, UpW]
  | z :: r, y, h => by
    obtain ⟨h1, h2⟩ := List.pairwise_cons.1 h
    have hyz := h1 z (by simp)
    rw [ltW_eq, decide_eq_false_iff_not] at hyz
    have ih := up_cmpctGo r z h2
    obtain ⟨i1, i2⟩ := List.pairwise_cons.1 ih
    simp only [cmpctGo]
    cases hq : qW z y with
    | true =>
      simp only [qW, beq_iff_eq] at hq
      exact List.pairwise_cons.2 ⟨fun a ha => by have := i1 a ha; omega, i2⟩
    | false =>
      simp only [qW, beq_eq_false_iff_ne, ne_eq] at hq
      refine List.pairwise_cons.2 ⟨fun a ha => ?_, ih⟩
      rcases List.mem_cons.1 ha with rfl | ha
      · omega
      · have := i1 a ha; omega

theorem up_lastW (ws : List (Int × Int)) : UpW (lastW ws) := by
  rw [lastW_eq]
  have h := isort_pw ltW_nt ltW_as ws.reverse
  cases e : isort ltW ws.reverse with
  | nil => exact List.Pairwise.nil
  | cons x r => rw [e] at h; exact up_cmpctGo r x h

theorem lastW_cell {ws : List (Int × Int)} {w : Int × Int} (h : w ∈ ws) : ∃ p ∈ lastW ws, p.1 = w.1 := by
  have hf := find_lastW w.1 ws
  cases e : (lastW ws).find? (pW w.1) with
  | some p =>
    refine ⟨p, List.mem_of_find?_eq_some e, ?_⟩
    have := List.find?_some e
    simpa [pW] using this
  | none =>
    rw [e] at hf
    have := List.find?_eq_none.1 hf.symm w (by simpa using h)
    simp [pW] at this

theorem lastW_get {ws : List (Int × Int)} {p : Int × Int} (h : p ∈ lastW ws) : getW ws p.1 = (p.2, true) ∧ ∃ w ∈ ws, w.1 = p.1 := by
  have hf := find_lastW p.1 ws
  cases e : (lastW ws).find? (pW p.1) with
  | none =>
    have := List.find?_eq_none.1 e p h
    simp [pW] at this
  | some q =>
    have hq := List.mem_of_find?_eq_some e
    have hq1 : q.1 = p.1 := by have := List.find?_some e; simpa [pW] using this
    have hqp : q = p := by
      obtain ⟨i, hi, rfl⟩ := List.getElem_of_mem hq
      obtain ⟨j, hj, rfl⟩ := List.getElem_of_mem h
      have hu := List.pairwise_iff_getElem.1 (up_lastW ws)
      rcases Nat.lt_trichotomy i j with g | g | g
      · have := hu i j hi hj g; omega
      · subst g; rfl
      · have := hu j i hj hi g; omega
    subst hqp
    rw [e] at hf
    constructor
    · unfold getW
      have hf' : ws.reverse.find? (fun p => p.1 == q.1) = some q := hf.symm
      rw [hf']
    · exact ⟨q, by have := List.mem_of_find?_eq_some hf.symm; simpa using this, rfl⟩

def stepC (at' : Int) (b : Int) (w : Int × Int) : Int := if w.1 > at' ∧ (b < 0 ∨ w.1 < b) then w.1 else b
def nextC (ws : List (Int × Int)) (at' : Int) : Int := ws.foldl (stepC at') (-1)
theorem nextC_snoc (ws : List (Int × Int)) (w : Int × Int) (a : Int) : nextC (ws ++ [w]) a = stepC a (nextC ws a) w := by simp [nextC]

def invC (ws : List (Int × Int)) (a b : Int) : Prop := (b = -1 ∧ ∀ w ∈ ws, w.1 ≤ a) ∨ (0 ≤ b ∧ a < b ∧ (∃ w ∈ ws, w.1 = b) ∧ ∀ w ∈ ws, a < w.1 → b ≤ w.1)

theorem nextC_inv {ws : List (Int × Int)} (h0 : ∀ w ∈ ws, 0 ≤ w.1) (a : Int) : invC ws a (nextC ws a) := by
  have : ∀ (l pre : List (Int × Int)) (b : Int), (∀ w ∈ l, 0 ≤ w.1) → invC pre a b → invC (pre ++ l) a (l.foldl (stepC a) b) := by
    intro l
    induction l with
    | nil => intro pre b _ h; simpa using h
    | cons x r ih =>
      intro pre b hl h
      have e : pre ++ x :: r = (pre ++ [x]) ++ r := by simp
      rw [e, List.foldl_cons]
      refine ih _ _ (fun w hw => hl w (by simp [hw])) ?_
      have hx := hl x (by simp)
      unfold stepC
      rcases h with ⟨rfl, h⟩ | ⟨b0, ab, ⟨w, hw, hwb⟩, h⟩
      · by_cases g : x.1 > a
        · rw [if_pos ⟨g, .inl (by omega)⟩]
          refine .inr ⟨hx, g, ⟨x, by simp, rfl⟩, fun v hv hav => ?_⟩
          rcases List.mem_append.1 hv with hv | hv
          · have := h v hv; omega
          · obtain rfl : v = x := by simpa using hv
            exact Int.le_refl _
        · rw [if_neg (fun g' => g g'.1)]
          refine .inl ⟨rfl, fun v hv => ?_⟩
          rcases List.mem_append.1 hv with hv | hv
          · exact h v hv
          · obtain rfl : v = x := by simpa using hv
            omega
      · by_cases g : x.1 > a ∧ (b < 0 ∨ x.1 < b)
        · rw [if_pos g]
          refine .inr ⟨hx, g.1, ⟨x, by simp, rfl⟩, fun v hv hav => ?_⟩
          rcases List.mem_append.1 hv with hv | hv
          · have := h v hv hav; omega
          · obtain rfl : v = x := by simpa using hv
            exact Int.le_refl _
        · rw [if_neg g]
          refine .inr ⟨b0, ab, ⟨w, by simp [hw], hwb⟩, fun v hv hav => ?_⟩
          rcases List.mem_append.1 hv with hv | hv
          · exact h v hv hav
          · obtain rfl : v = x := by simpa using hv
            omega
  have h := this ws [] (-1) h0 (.inl ⟨rfl, by simp⟩)
  simpa [nextC] using h

def atC (ws : List (Int × Int)) (k : Nat) : Int := if k = 0 then -1 else (((lastW ws)[k - 1]?).getD (0, 0)).1

theorem atC_ge {ws : List (Int × Int)} {k j : Nat} (hk : k ≤ (lastW ws).length) (hj : j < k) : ((lastW ws)[j]'(by omega)).1 ≤ atC ws k := by
  unfold atC
  rw [if_neg (by omega), List.getElem?_eq_getElem (by omega), Option.getD_some]
  rcases Nat.eq_or_lt_of_le (Nat.le_sub_one_of_lt hj) with e | h
  · subst e; exact Int.le_refl _
  · have := List.pairwise_iff_getElem.1 (up_lastW ws) j (k - 1) (by omega) (by omega) h
    omega

theorem next_end {ws : List (Int × Int)} (h0 : ∀ w ∈ ws, 0 ≤ w.1) : nextC ws (atC ws (lastW ws).length) = -1 := by
  rcases nextC_inv h0 (atC ws (lastW ws).length) with h | ⟨_, g, ⟨w, hw, hwb⟩, _⟩
  · exact h.1
  · obtain ⟨p, hp, hpw⟩ := lastW_cell hw
    obtain ⟨j, hj, rfl⟩ := List.getElem_of_mem hp
    have := atC_ge (Nat.le_refl _) hj
    omega

theorem next_step {ws : List (Int × Int)} (h0 : ∀ w ∈ ws, 0 ≤ w.1) {k : Nat} (hk : k < (lastW ws).length) : nextC ws (atC ws k) = ((lastW ws)[k]).1 ∧ 0 ≤ ((lastW ws)[k]).1 := by
  obtain ⟨_, v, hv, hvk⟩ := lastW_get (List.getElem_mem hk)
  have hv0 := h0 v hv
  have hat : atC ws k < ((lastW ws)[k]).1 := by
    unfold atC
    split
    · omega
    · rw [List.getElem?_eq_getElem (by omega), Option.getD_some]
      exact List.pairwise_iff_getElem.1 (up_lastW ws) (k - 1) k (by omega) (by omega) (by omega)
  refine ⟨?_, by omega⟩
  rcases nextC_inv h0 (atC ws k) with h | ⟨_, g, ⟨w, hw, hwb⟩, g2⟩
  · have := h.2 v hv; omega
  · obtain ⟨p, hp, hpw⟩ := lastW_cell hw
    obtain ⟨j, hj, rfl⟩ := List.getElem_of_mem hp
    have h1 := g2 v hv (by omega)
    rcases Nat.lt_trichotomy j k with e | e | e
    · have := atC_ge (Nat.le_of_lt hk) e; omega
    · subst e; omega
    · have := List.pairwise_iff_getElem.1 (up_lastW ws) k j hk hj e; omega

end Go.Proofs.YtjhfpabldidlgaaGreat.AM

set_option linter.all false
set_option maxRecDepth 100000
set_option maxHeartbeats 4000000
namespace Go.Proofs.YtjhfpabldidlgaaGreat.AM
open Go Go.RowKit

def oV (k : Nat) : V := if k = 0 then .nils else .own 1 0 k
def oH (l : Lg) (k : Nat) : Heap := if k = 0 then [bLg l] else [bLg l, .dat false 2 (((lastW l.1).take k).map dW)]
theorem oVH (l : Lg) (k : Nat) : (k = 0 ∧ oV k = .nils ∧ oH l k = [bLg l]) ∨ (k ≠ 0 ∧ oV k = .own 1 0 k ∧ oH l k = [bLg l, .dat false 2 (((lastW l.1).take k).map dW)]) := by
  unfold oV oH
  by_cases h : k = 0
  · exact .inl ⟨h, by simp [h], by simp [h]⟩
  · exact .inr ⟨h, by simp [h], by simp [h]⟩

theorem c_r06_Last (l : Lg) (h0 : ∀ w ∈ l.1, 0 ≤ w.1) (h1 : l.1.length ≤ 1000000) : CSpec Tryz.prog 79 [dLg l] (.vec ((lastW l.1).map dW)) := by
  have hN := lastW_len l.1
  refine CSpec.of_awp envOf_ok hmix Tryz.func79 rfl (fun args w => Tryz.call79 args w) (by simp [Tryz.f79]) ?_
  simp only [Tryz.f79]
  simp (maxSteps := 2000000) -implicitDefEqProofs only [zz, zE, evop, ev, ofVal, tget, tput, ok, V.isUndef, initT, Ch.on, hput, V.cells, ↓reduceIte, Nat.reduceLT, Int.reduceNeg, dLg]
  refine wloop_ind (σ := Nat) (fun k => (lastW l.1).length - k) (fun k => [(3, oV k), (4, .d (.int .i64 (atC l.1 k))), (1, .ptr 0 0 0)]) (fun k => oH l k) (fun k => k ≤ (lastW l.1).length) 0 (Nat.zero_le _) (Weak.sub (by simp [tget, oV, atC])) (fun k hk => ?_)
  rcases oVH l k with ⟨hk0, e1, e2⟩ | ⟨hk0, e1, e2⟩
  all_goals
    simp (maxSteps := 2000000) -implicitDefEqProofs only [zz, evop, ev, ofVal, tput, ok, V.isUndef, Ch.on, ↓reduceIte, Nat.reduceLT, Int.reduceNeg, e1, e2]
    refine wloop_count l.1.length (fun i => [(6, .d (.int .i64 i)), (5, .d (.int .i64 (nextC (l.1.take i) (atC l.1 k)))), (3, oV k), (4, .d (.int .i64 (atC l.1 k))), (1, .ptr 0 0 0)]) (fun _ => oH l k) (fun _ => True) trivial (by rw [e1, e2]; exact Weak.sub (by simp [tget, nextC])) (fun i hi _ => ?_) (fun _ => ?_)
    · have hx : l.1[i]? = some l.1[i] := List.getElem?_eq_getElem hi
      have h' : ((i : Int) < (l.1.length : Int)) := by omega
      have hw : IntKind.i64.wrap ((i : Int) + 1) = ((i + 1 : Nat) : Int) := by rw [wrap_in (by omega)]; omega
      have ht : l.1.take (i + 1) = l.1.take i ++ [l.1[i]] := by rw [List.take_succ, hx]; rfl
      have hg := nextC_snoc (l.1.take i) l.1[i] (atC l.1 k)
      rw [← ht] at hg
      simp (maxSteps := 2000000) -implicitDefEqProofs only [zz, zE, evop, ev, ofVal, tget, tput, ok, V.isUndef, intBin, guardOf, Ch.on, told, hget, D.cells, loadD, structAt, sliceOf, Blk.width, lenOf, ↓reduceIte, reduceCtorEq, Nat.reduceLT, Nat.reduceEqDiff, Nat.reduceAdd, nilTest, dW, e1, e2, h', bLg, List.getElem?_map, hx, Option.map_some, Int.natCast_nonneg]
      have hs : nextC (l.1.take (i + 1)) (atC l.1 k) = if l.1[i].1 > atC l.1 k ∧ (nextC (l.1.take i) (atC l.1 k) < 0 ∨ l.1[i].1 < nextC (l.1.take i) (atC l.1 k)) then l.1[i].1 else nextC (l.1.take i) (atC l.1 k) := hg
      generalize nextC (l.1.take (i + 1)) (atC l.1 k) = B' at hs ⊢
      generalize hB : nextC (l.1.take i) (atC l.1 k) = B at hs ⊢
      (repeat' split) <;> (refine Weak.sub ?_; simp [tget, hw]; (try simp only [decide_eq_false_iff_not, Classical.not_not] at *); rw [hs]; split <;> omega)
    · have h' : ¬ ((l.1.length : Int) < (l.1.length : Int)) := by omega
      rcases Nat.eq_or_lt_of_le hk with hk | hk
      · have e5 : nextC (l.1.take l.1.length) (atC l.1 k) = -1 := by rw [List.take_length, hk]; exact next_end h0
        have n3 : ((-1 : Int) < 0) := by omega
        simp (maxSteps := 2000000) -implicitDefEqProofs only [zz, zE, evop, ev, ofVal, tget, tput, ok, V.isUndef, intBin, Ch.on, told, xport, hget, structAt, sliceOf, Blk.width, lenOf, resOf, resV, resVs, ↓reduceIte, reduceCtorEq, Nat.reduceLT, Nat.reduceEqDiff, Nat.reduceAdd, Int.reduceNeg, nilTest, e1, e2, h', bLg, e5, n3]
        try (have hl0 : lastW l.1 = [] := List.eq_nil_of_length_eq_zero (by omega))
        try simp [hl0]
        try simp [List.take_take, hk]
        try exact List.take_of_length_le (by simp)
      · obtain ⟨n1, n2⟩ := next_step h0 hk
        have e5 : nextC (l.1.take l.1.length) (atC l.1 k) = (lastW l.1)[k].1 := by rw [List.take_length]; exact n1
        have n3 : ¬ ((lastW l.1)[k].1 < 0) := by omega
        have gg := (lastW_get (List.getElem_mem hk)).1
        have eo : oV (k + 1) = .own 1 0 (k + 1) := by simp [oV]
        have ea : atC l.1 (k + 1) = (lastW l.1)[k].1 := by unfold atC; rw [if_neg (by omega), Nat.add_sub_cancel, List.getElem?_eq_getElem hk]; rfl
        have et : (lastW l.1).take (k + 1) = (lastW l.1).take k ++ [(lastW l.1)[k]] := by rw [List.take_succ, List.getElem?_eq_getElem hk]; rfl
        have eh : oH l (k + 1) = [bLg l, .dat false 2 (((lastW l.1).take k).map dW ++ [dW (lastW l.1)[k]])] := by unfold oH; rw [if_neg (by omega), et, List.map_append]; rfl
        simp (maxSteps := 2000000) -implicitDefEqProofs only [zz, zE, evop, ev, ofVal, tget, tput, ok, V.isUndef, intBin, Ch.on, calleeOf, withArgs, told, hget, structAt, sliceOf, Blk.width, lenOf, ↓reduceIte, reduceCtorEq, Nat.reduceLT, Nat.reduceEqDiff, Nat.reduceAdd, Nat.reduceLeDiff, nilTest, e1, e2, h', bLg, e5, n3]
        refine acall_flat' (c_r06_Get l (lastW l.1)[k].1 h1) rfl ?_
        try simp (maxSteps := 2000000) -implicitDefEqProofs only [zz, zE, evop, ev, tget, tput, ok, V.isUndef, Ch.on, hget, hput, V.cells, D.cells, V.one, V.clo, clos, V.toD, sliceOf, partsD, partsV, elems, splice, ↓reduceIte, Nat.reduceLT, Nat.reduceEqDiff, Nat.reduceAdd, Nat.reduceMul, Nat.reduceLeDiff]
        simp (maxSteps := 2000000) -implicitDefEqProofs only [gg]
        refine ⟨?_, k + 1, hk, by omega, ?_⟩
        · first
          | exact okEl_W [(lastW l.1)[k]]
          | exact ⟨by omega, okEl_W [(lastW l.1)[k]]⟩
        · rw [eo, eh, ea]
          first
          | (subst hk0
             refine Weak.pick [0, 2] (by decide) (by simp) rfl (fun q hq => ?_) (fun i hi => ?_)
             · simp only [List.mem_cons, List.not_mem_nil, or_false] at hq
               rcases hq with rfl | rfl | rfl <;> exact .same _
             · match i, hi with
               | 0, _ => exact .box _ _ _ rfl rfl (.cons (.same _) (.cons (.same _) .nil))
               | 1, _ => exact .dat _ _ _ rfl rfl
               | i + 2, hi => exact absurd hi (by simp))
          | (have e6 : List.take k (List.map dW (List.take k (lastW l.1))) = List.map dW (List.take k (lastW l.1)) := by rw [List.take_of_length_le]; simp; omega
             rw [e6]
             refine Weak.pick [0, 3] (by decide) (by simp) rfl (fun q hq => ?_) (fun i hi => ?_)
             · simp only [List.mem_cons, List.not_mem_nil, or_false] at hq
               rcases hq with rfl | rfl | rfl <;> exact .same _
             · match i, hi with
               | 0, _ => exact .box _ _ _ rfl rfl (.cons (.same _) (.cons (.same _) .nil))
               | 1, _ => exact .dat _ _ _ rfl rfl
               | i + 2, hi => exact absurd hi (by simp))

end Go.Proofs.YtjhfpabldidlgaaGreat.AM

set_option linter.all false
set_option maxRecDepth 100000
set_option maxHeartbeats 8000000
namespace Go.Proofs.YtjhfpabldidlgaaGreat.AM
open Go Go.RowKit

end Go.Proofs.YtjhfpabldidlgaaGreat.AM

set_option linter.all false
set_option maxRecDepth 100000
set_option maxHeartbeats 4000000
namespace Go.Proofs.YtjhfpabldidlgaaGreat.AM
open Go Go.RowKit

theorem c_Same (a b : Lg) (ha1 : a.1.length ≤ 1000000) (ha2 : a.2.length ≤ 1000000) (hb1 : b.1.length ≤ 1000000) (hb2 : b.2.length ≤ 1000000) : CSpec Tryz.prog 60 [dLg a, dLg b] (.bool (decide (a = b))) := by
  refine CSpec.of_awp envOf_ok hmix Tryz.func60 rfl (fun args w => Tryz.call60 args w) (by simp [Tryz.f60]) ?_
  simp only [Tryz.f60]
  simp (maxSteps := 2000000) -implicitDefEqProofs only [zz, zE, evop, ev, ofVal, tget, tput, ok, V.isUndef, initT, Ch.on, calleeOf, withArgs, hget, hput, V.cells, structAt, Blk.width, ↓reduceIte, reduceCtorEq, Nat.reduceLT, Nat.reduceEqDiff, Nat.reduceAdd, dLg]
  refine acall_flat' (c_r06_List a.1 b.1 ha1 hb1) rfl ?_
  try simp (maxSteps := 2000000) -implicitDefEqProofs only [zz, zE, evop, ev, ofVal, tget, tput, ok, V.isUndef, intBin, guardOf, Ch.on, told, xport, hget, structAt, sliceOf, Blk.width, lenOf, resOf, resV, resVs, ↓reduceIte, reduceCtorEq, Nat.reduceLT, Nat.reduceEqDiff, Nat.reduceAdd, nilTest]
  by_cases h1 : a.1 = b.1
  · have hd : decide (a.1 = b.1) = true := by simpa using h1
    simp (maxSteps := 2000000) -implicitDefEqProofs only [zz, ↓reduceIte, hd]
    split
    · rename_i hne
      have : a ≠ b := fun e => by subst e; simp at hne
      simp [this]
    · rename_i hne
      have hl : a.2.length = b.2.length := by simp at hne; omega
      refine wloop_count a.2.length (fun i => [(6, .d (.int .i64 i)), (2, .ptr 0 0 0), (3, .ptr 1 0 0)]) (fun _ => [.box false [.d (.vec (a.1.map dW)), .d (.vec (a.2.map dI))], .box false [.d (.vec (b.1.map dW)), .d (.vec (b.2.map dI))]]) (fun i => ∀ j < i, a.2[j]? = b.2[j]?) (fun j hj => by omega) (Weak.sub (by simp [tget])) (fun i hi hI => ?_) (fun hI => ?_)
      · have hx : a.2[i]? = some a.2[i] := List.getElem?_eq_getElem hi
        have hy : b.2[i]? = some b.2[i] := List.getElem?_eq_getElem (by omega)
        have h' : ((i : Int) < (a.2.length : Int)) := by omega
        simp (maxSteps := 2000000) -implicitDefEqProofs only [zz, zE, evop, ev, tget, tput, ok, V.isUndef, intBin, Ch.on, told, hget, structAt, sliceOf, Blk.width, lenOf, ↓reduceIte, reduceCtorEq, Nat.reduceLT, Nat.reduceEqDiff, Nat.reduceAdd, nilTest, h']
        refine wdraw_plan [⟨[], false, [32, 35, 36, 37, 38, 39], [], false⟩, ⟨[0], false, [32, 35, 36, 37, 38, 39], [], false⟩, ⟨[], false, [30, 31, 35, 36, 37, 38, 39], [0, 1], false⟩, ⟨[0, 1, 2], false, [35, 36, 37, 38, 39], [], false⟩, ⟨[0, 1, 2, 3], false, [35, 36, 37, 38, 39], [], false⟩, ⟨[], false, [30, 31, 32, 33, 34, 37], [0, 1, 2, 3, 4], false⟩, ⟨[5], false, [30, 31, 32, 33, 34, 37], [0, 1, 2, 3, 4], false⟩, ⟨[], false, [30, 31, 32, 33, 34, 35, 36], [0, 1, 2, 3, 4, 5, 6], false⟩, ⟨[5, 6, 7], false, [30, 31, 32, 33, 34], [0, 1, 2, 3, 4], false⟩, ⟨[5, 6, 7, 8], false, [30, 31, 32, 33, 34], [0, 1, 2, 3, 4], false⟩, ⟨[0, 1, 2, 3, 4, 5, 6, 7, 8, 9], true, [], [], false⟩] (by decide) ?_
        simp (maxSteps := 2000000) -implicitDefEqProofs only [zz, zE, evop, ev, ofVal, tget, tput, ok, V.isUndef, intBin, Ch.on, told, xport, hget, hput, V.cells, D.cells, V.isAgg, loadD, structAt, Blk.width, resOf, resV, resVs, ↓reduceIte, reduceCtorEq, Nat.reduceLT, Nat.reduceEqDiff, Nat.reduceAdd, Nat.reduceLeDiff, nilTest, dI, List.getElem?_map, hx, hy, Option.map_some, Int.natCast_nonneg]
        have hw : IntKind.i64.wrap ((i : Int) + 1) = ((i + 1 : Nat) : Int) := by rw [wrap_in (by omega)]; omega
        split
        · rename_i hne
          have : a ≠ b := fun e => by subst e; simp at hne
          simp [this]
        · rename_i hne
          have he : a.2[i] = b.2[i] := by simpa using hne
          refine ⟨fun j hj => ?_, Weak.trims 2 rfl (by simp [tget, hw, V.lower]) (by simp [Blk.lower, V.lower, lowerL])⟩
          rcases Nat.lt_or_ge j i with h | h
          · exact hI j h
          · obtain rfl : j = i := by omega
            rw [hx, hy, he]
      · have h' : ¬ ((a.2.length : Int) < (a.2.length : Int)) := by omega
        simp (maxSteps := 2000000) -implicitDefEqProofs only [zz, zE, evop, ev, ofVal, tget, tput, ok, V.isUndef, intBin, Ch.on, told, xport, hget, structAt, sliceOf, Blk.width, lenOf, resOf, resV, resVs, ↓reduceIte, reduceCtorEq, Nat.reduceLT, Nat.reduceEqDiff, Nat.reduceAdd, nilTest, h']
        have : a = b := by
          refine Prod.ext h1 (List.ext_getElem? fun k => ?_)
          rcases Nat.lt_or_ge k a.2.length with hk | hk
          · exact hI k hk
          · rw [List.getElem?_eq_none hk, List.getElem?_eq_none (by omega)]
        simp [this]
  · have hd : decide (a.1 = b.1) = false := by simpa using h1
    have : a ≠ b := fun e => h1 (by rw [e])
    simp (maxSteps := 2000000) -implicitDefEqProofs only [zz, ↓reduceIte, hd]
    simp [this]


end Go.Proofs.YtjhfpabldidlgaaGreat.AM

set_option linter.all false
set_option maxRecDepth 100000
set_option maxHeartbeats 4000000
namespace Go.Proofs.YtjhfpabldidlgaaGreat.AM
open Go Go.RowKit

def bX (t : Ty) (h : List (Bool × Int)) (r : List (Int × Int)) : Blk := .box false [.d (.int .i64 t.who), .d (.int .i64 t.snap), .d (.int .i64 t.pc), .d (.vec (t.regs.map dI)), .d (.vec (t.path.map dI)), .d (.vec (t.reads.map dRd)), .d (.vec (t.log.1.map dW)), .d (.vec (t.log.2.map dI)), .d (.vec (t.frames.map dFr)), .d (.int .i64 t.kind), .d (.int .i64 t.why), .d (.vec (h.map dC)), .d (.vec (r.map dW))]

theorem r_x_end (t : Ty) (h : List (Bool × Int)) (r : List (Int × Int)) (k w : Int) : RSpec Tryz.prog 118 [.ptr 0 0 0, .d (.int .i64 k), .d (.int .i64 w)] [bX t h r] (.tuple []) [bX (endT t k w) h r] := by
  refine RSpec.of_awp envOf_ok hmix Tryz.func118 rfl (fun args w => Tryz.call118 args w) (by simp [Tryz.f118]) ?_
  simp only [Tryz.f118]
  simp (maxSteps := 2000000) -implicitDefEqProofs only [zz, evop, ev, tget, tput, ok, V.isUndef, Ch.on, hget, isPtr, Blk.width, ↓reduceIte, reduceCtorEq, Nat.reduceLT, Nat.reduceEqDiff, Nat.reduceAdd, initV]
  unfold bX endT
  simp (maxSteps := 2000000) -implicitDefEqProofs only [zz, zE, evop, ev, tget, tput, ok, Ch.on, hget, hput, V.cells, V.one, structAt, isPtr, Blk.width, splice, resOf, resVs, ↓reduceIte, reduceCtorEq, Nat.reduceLT, Nat.reduceEqDiff, Nat.reduceAdd, Nat.reduceLeDiff]
  exact Weak.trimsM 1 (by simp) rfl (by simp [tget, V.lower, lowerL]) (by simp [Blk.lower, lowerL, V.lower])

theorem r_x_tell (t : Ty) (h : List (Bool × Int)) (r : List (Int × Int)) (x : List (Int × Int)) (hl : h.length ≤ 1000000) (htl : x.length ≤ 1000000) : RSpec Tryz.prog 115 [.ptr 0 0 0, .d (.vec (x.map dW))] [bX t h r] (.d (.int .i64 (tellT t h x))) [bX t h r] := by
  refine RSpec.of_awp envOf_ok hmix Tryz.func115 rfl (fun args w => Tryz.call115 args w) (by simp [Tryz.f115]) ?_
  simp only [Tryz.f115]
  simp (maxSteps := 2000000) -implicitDefEqProofs only [zz, evop, ev, ofVal, tput, ok, V.isUndef, Ch.on, ↓reduceIte, Nat.reduceLT, initV]
  unfold bX
  refine wdraw_plan [⟨[], false, [9, 10, 11, 12, 13, 14, 15, 16, 17], [], false⟩, ⟨[], false, [8, 13, 14, 15, 16, 17], [0], false⟩, ⟨[1], false, [8, 13, 14, 15, 16, 17], [0], false⟩, ⟨[1, 2], false, [8, 13, 14, 15, 16, 17], [0], false⟩, ⟨[1, 2, 3], false, [8, 13, 14, 15, 16, 17], [0], false⟩, ⟨[], false, [8, 9, 10, 11, 12], [0, 1, 2, 3, 4], false⟩, ⟨[5], false, [8, 9, 10, 11, 12], [0, 1, 2, 3, 4], false⟩, ⟨[5, 6], false, [8, 9, 10, 11, 12], [0, 1, 2, 3, 4], false⟩, ⟨[5, 6, 7], false, [8, 9, 10, 11, 12], [0, 1, 2, 3, 4], false⟩, ⟨[5, 6, 7, 8], false, [8, 9, 10, 11, 12], [0, 1, 2, 3, 4], false⟩, ⟨[0, 1, 2, 3, 4, 5, 6, 7, 8, 9], true, [], [], false⟩, ⟨[0, 1, 2, 3, 4, 5, 6, 7, 8, 9, 10], true, [], [], false⟩, ⟨[0, 1, 2, 3, 4, 5, 6, 7, 8, 9, 10, 11], false, [20], [], false⟩, ⟨[0, 1, 2, 3, 4, 5, 6, 7, 8, 9, 10, 11], false, [5, 19], [12], false⟩, ⟨[0, 1, 2, 3, 4, 5, 6, 7, 8, 9, 10, 11, 12], false, [20], [13], false⟩, ⟨[0, 1, 2, 3, 4, 5, 6, 7, 8, 9, 10, 11, 12, 13, 14], true, [], [], false⟩] (by decide) ?_
  simp (maxSteps := 2000000) -implicitDefEqProofs only [zz, zE, evop, ev, ofVal, tget, tput, ok, V.isUndef, calleeOf, withArgs, hget, hput, D.cells, loadD, structAt, isPtr, Blk.width, ↓reduceIte, reduceCtorEq, Nat.reduceLT, Nat.reduceEqDiff, Nat.reduceAdd, Nat.reduceLeDiff]
  have he := c_Eval h t.regs x hl htl
  refine acall_flat' (he) rfl ?_
  try simp (maxSteps := 2000000) -implicitDefEqProofs only [zz, evop, ev, tget, tput, ok, V.isUndef, Ch.on, hput, resOf, resV, resVs, ↓reduceIte, Nat.reduceLT, Nat.reduceEqDiff, Nat.reduceAdd, Nat.reduceSub, Nat.reduceLeDiff]
  exact Weak.trimsM 1 (by simp) rfl (by simp [tget, V.lower, tellT]) (by simp [Blk.lower, lowerL, V.lower])

theorem r_x_put (t : Ty) (h : List (Bool × Int)) (r : List (Int × Int)) (a v : Int) (hreg : t.regs.length = 8) (ha : 0 ≤ a ∧ a < 8) (hpc : 0 ≤ t.pc ∧ t.pc ≤ 1000000) : RSpec Tryz.prog 114 [.ptr 0 0 0, .d (.int .i64 a), .d (.int .i64 v)] [bX t h r] (.tuple []) [bX (putT t a v) h r] := by
  refine RSpec.of_awp envOf_ok hmix Tryz.func114 rfl (fun args w => Tryz.call114 args w) (by simp [Tryz.f114]) ?_
  simp only [Tryz.f114]
  simp (maxSteps := 2000000) -implicitDefEqProofs only [zz, evop, ev, tget, tput, ok, V.isUndef, Ch.on, hget, isPtr, Blk.width, ↓reduceIte, reduceCtorEq, Nat.reduceLT, Nat.reduceAdd, initV]
  unfold bX
  simp (maxSteps := 2000000) -implicitDefEqProofs only [zz, zE, evop, ev, tget, tput, ok, V.isUndef, Ch.on, calleeOf, withArgs, hget, structAt, Blk.width, ↓reduceIte, reduceCtorEq, Nat.reduceLT, Nat.reduceAdd]
  have hc := o_Clone_int (t.regs.map dI) (by simp; omega) (okEl_I _)
  rw [List.length_map, hreg] at hc
  have hwp : IntKind.i64.wrap (t.pc + 1) = t.pc + 1 := by rw [wrap_in (by omega)]
  refine acall_own' (hc) ?_
  try simp (maxSteps := 2000000) -implicitDefEqProofs only [zz, zE, evop, ev, tget, tput, ok, V.isUndef, Ch.on, tids, tidss, hget, hput, freeze, V.cells, D.cells, V.one, V.clo, clos, structAt, isPtr, Blk.width, splice, D.over, ↓reduceIte, reduceCtorEq, Nat.reduceLT, Nat.reduceEqDiff, Nat.reduceAdd, Nat.reduceLeDiff, shiftH, Blk.ren, V.ren]
  have hx : t.regs[a.toNat]? = some (t.regs[a.toNat]'(by omega)) := List.getElem?_eq_getElem (by omega)
  simp (maxSteps := 2000000) -implicitDefEqProofs only [zz, zE, evop, ev, ofVal, tget, tput, ok, V.isUndef, intBin, Ch.on, hget, hput, V.cells, V.one, structAt, isPtr, Blk.width, splice, resOf, resVs, ↓reduceIte, reduceCtorEq, Nat.reduceLT, Nat.reduceEqDiff, Nat.reduceAdd, Nat.reduceLeDiff, nilTest, dI, List.getElem?_map, hx, Option.map_some, hwp]
  refine ⟨by omega, ?_⟩
  have er : List.take 8 ((t.regs.map dI).set a.toNat (.int .i64 v)) = (t.regs.set a.toNat v).map dI := by
    rw [List.map_set, List.take_of_length_le (by simp; omega)]; rfl
  refine Weak.close [1] 1 (by simp) ?_ (by simp [tget, sealF, V.lower, lowerL]) (by simp [Blk.lower, lowerL, V.lower])
  simp [sealH, sealB, sealF, freeze, hput, hget, Blk.ice, er, putT]

theorem r_x_store (t : Ty) (h : List (Bool × Int)) (r : List (Int × Int)) (x : St) (hl : h.length ≤ 1000000) (htl : x.t.length ≤ 1000000) (h1 : t.log.1.length ≤ 1000000) (h2 : t.log.2.length ≤ 1000000) (hpc : 0 ≤ t.pc ∧ t.pc ≤ 1000000) :
    RSpec Tryz.prog 116 [.ptr 0 0 0, .d (dS x)] [bX t h r] (.tuple []) [bX (storeT t x h) h r] := by
  refine RSpec.of_awp envOf_ok hmix Tryz.func116 rfl (fun args w => Tryz.call116 args w) (by simp [Tryz.f116]) ?_
  simp only [Tryz.f116]
  simp (maxSteps := 2000000) -implicitDefEqProofs only [zz, zE, evop, ev, tget, tput, V.isUndef, Ch.on, hput, V.cells, ↓reduceIte, reduceCtorEq, Nat.reduceLT, initV, dS]
  unfold bX
  refine wdraw_plan [⟨[], false, [11, 12], [], false⟩, ⟨[0], false, [11, 12], [], false⟩, ⟨[0, 1], false, [11, 12], [], false⟩, ⟨[0, 1, 2], false, [11, 12], [], false⟩, ⟨[], false, [7, 8, 9, 10], [0, 1, 2, 3], false⟩, ⟨[4], false, [7, 8, 9, 10], [0, 1, 2, 3], false⟩, ⟨[0, 1, 2, 3, 4, 5], true, [], [], false⟩, ⟨[0, 1, 2, 3, 4, 5, 6], true, [], [], false⟩, ⟨[0, 1, 2, 3, 4, 5, 6, 7], false, [15], [], false⟩, ⟨[0, 1, 2, 3, 4, 5, 6, 7], false, [4, 14], [8], false⟩, ⟨[0, 1, 2, 3, 4, 5, 6, 7, 8], false, [15], [9], false⟩, ⟨[0, 1, 2, 3, 4, 5, 6, 7, 8, 9, 10], true, [], [], false⟩] (by decide) ?_
  simp (maxSteps := 2000000) -implicitDefEqProofs only [zz, zE, evop, ev, ofVal, tget, tput, ok, V.isUndef, calleeOf, withArgs, hget, hput, D.cells, loadD, structAt, isPtr, Blk.width, ↓reduceIte, reduceCtorEq, Nat.reduceLT, Nat.reduceEqDiff, Nat.reduceAdd, Nat.reduceLeDiff]
  refine acall_flat' (c_heap_Get h x.a hl) rfl ?_
  try simp (maxSteps := 2000000) -implicitDefEqProofs only [zz, zE, evop, ev, ofVal, tget, tput, ok, V.isUndef, intBin, Ch.on, calleeOf, withArgs, told, hget, hput, structAt, Blk.width, ↓reduceIte, reduceCtorEq, Nat.reduceLT, Nat.reduceEqDiff, Nat.reduceAdd, Nat.reduceSub, Nat.reduceLeDiff, nilTest]
  have hwp : IntKind.i64.wrap (t.pc + 1) = t.pc + 1 := by rw [wrap_in (by omega)]
  by_cases h0 : (heapGet h x.a).2 = 0
  case neg =>
    have e : ((heapGet h x.a).2 != 0) = true := by simpa using h0
    have hst : storeT t x h = endT t 4 x.a := by unfold storeT; rw [if_pos h0]
    rw [hst]
    have hr := r_x_end t h r 4 x.a
    unfold bX at hr
    simp (maxSteps := 2000000) -implicitDefEqProofs only [↓reduceIte, e]
    refine acall_ref [0] (hr) (by first | rfl | simp [renL, V.ren, frρ, renL_ds]) (by simp) rfl (by simp) (by simp) (by intro j hj; match j, hj with | 0, _ => exact ⟨by simp [hget], rfl⟩) ?_
    try simp (maxSteps := 2000000) -implicitDefEqProofs only [zz, tput, hput, resOf, resVs, ↓reduceIte, Nat.reduceLT, Nat.reduceAdd, Blk.ren, V.ren, renL, frameH, putL]
    exact Weak.trimsM 1 (by simp) rfl (by simp [tget, V.lower, lowerL]) (by simp [Blk.lower, lowerL, V.lower])
  have e : ((heapGet h x.a).2 != 0) = false := by simpa using h0
  have hn := not_not_intro h0
  have hst : storeT t x h = { t with log := (logPut t.log (x.a, tellT t h x.t)).1, pc := t.pc + 1 } := by unfold storeT; rw [if_neg hn]
  rw [hst]
  simp (maxSteps := 2000000) -implicitDefEqProofs only [zz, ↓reduceIte, e]
  refine wdraw_plan [⟨[], false, [22, 23, 24, 25, 26, 27, 28, 29, 30, 31, 32, 33, 34, 35, 36, 37, 38], [], true⟩, ⟨[], false, [23, 29, 30, 31, 32, 33, 34, 35], [0], false⟩, ⟨[1], false, [23, 29, 30, 31, 32, 33, 34, 35], [0], false⟩, ⟨[1, 2], false, [23, 29, 30, 31, 32, 33, 34, 35], [0], false⟩, ⟨[1, 2, 3], false, [23, 29, 30, 31, 32, 33, 34, 35], [0], false⟩, ⟨[1, 2, 3, 4], false, [23, 29, 30, 31, 32, 33, 34, 35], [0], false⟩, ⟨[], false, [23, 24, 25, 26, 27, 28, 31, 32, 33, 34], [0, 1, 2, 3, 4, 5], false⟩, ⟨[6], false, [23, 24, 25, 26, 27, 28, 31, 32, 33, 34], [0, 1, 2, 3, 4, 5], false⟩, ⟨[], false, [23, 24, 25, 26, 27, 28, 29, 30, 32, 33], [0, 1, 2, 3, 4, 5, 6, 7], false⟩, ⟨[], false, [23, 24, 25, 26, 27, 28, 29, 30, 31], [0, 1, 2, 3, 4, 5, 6, 7, 8], false⟩, ⟨[9], false, [23, 24, 25, 26, 27, 28, 29, 30, 31], [0, 1, 2, 3, 4, 5, 6, 7, 8], false⟩, ⟨[8, 9, 10], false, [23, 24, 25, 26, 27, 28, 29, 30], [0, 1, 2, 3, 4, 5, 6, 7], false⟩, ⟨[6, 7, 8, 9, 10, 11], false, [23, 24, 25, 26, 27, 28], [0, 1, 2, 3, 4, 5], false⟩, ⟨[1, 2, 3, 4, 5, 6, 7, 8, 9, 10, 11, 12], true, [23], [], false⟩, ⟨[1, 2, 3, 4, 5, 6, 7, 8, 9, 10, 11, 12, 13], false, [23], [0], false⟩, ⟨[1, 2, 3, 4, 5, 6, 7, 8, 9, 10, 11, 12, 13, 14], false, [23, 38], [0], false⟩, ⟨[1, 2, 3, 4, 5, 6, 7, 8, 9, 10, 11, 12, 13, 14], false, [23, 37, 38, 39, 40, 41], [0, 15], true⟩, ⟨[0, 1, 2, 3, 4, 5, 6, 7, 8, 9, 10, 11, 12, 13, 14, 15], false, [38], [16], false⟩, ⟨[0, 1, 2, 3, 4, 5, 6, 7, 8, 9, 10, 11, 12, 13, 14, 15, 17], false, [38], [16], false⟩, ⟨[0, 1, 2, 3, 4, 5, 6, 7, 8, 9, 10, 11, 12, 13, 14, 15, 17, 18], false, [38], [16], false⟩, ⟨[0, 1, 2, 3, 4, 5, 6, 7, 8, 9, 10, 11, 12, 13, 14, 15, 17, 18, 19], true, [38], [], false⟩] (by decide) ?_
  simp (maxSteps := 2000000) -implicitDefEqProofs only [zz, zE, evop, ev, ofVal, tget, tput, ok, V.isUndef, calleeOf, withArgs, hget, hput, V.cells, D.cells, loadD, structAt, partsV, isPtr, Blk.width, splice, ↓reduceIte, reduceCtorEq, Nat.reduceLT, Nat.reduceEqDiff, Nat.reduceAdd, Nat.reduceLeDiff]
  have hr := r_x_tell t h r x.t hl htl
  unfold bX at hr
  refine dcall_ref0 [0] (hr) (fun k => by first | rfl | simp [renL, V.ren, frρ, renL_ds]) (fun k => rfl) (by simp) rfl (by intro j hj; match j, hj with | 0, _ => exact ⟨by simp [hget], by simp [hget, frρ], fun k => rfl⟩) ?_
  try simp (maxSteps := 2000000) -implicitDefEqProofs only [zz, ↓reduceIte, Nat.reduceAdd]
  have hp := c_W_Put t.log (x.a, tellT t h x.t) h1 h2
  unfold dLE at hp
  refine acall_ice' (hp) ?_
  try simp (maxSteps := 2000000) -implicitDefEqProofs only [zz, zE, evop, ev, ofVal, tget, tput, ok, V.isUndef, intBin, Ch.on, tids, tidss, hget, hput, freeze, V.cells, D.cells, V.one, structAt, isPtr, Blk.width, splice, D.over, resOf, resVs, ↓reduceIte, reduceCtorEq, Nat.reduceLT, Nat.reduceEqDiff, Nat.reduceAdd, Nat.reduceSub, Nat.reduceLeDiff, nilTest, dLg]
  simp (maxSteps := 2000000) -implicitDefEqProofs only [hwp]
  exact Weak.trimsM 1 (by simp) rfl (by simp [tget, V.lower, lowerL]) (by simp [Blk.lower, lowerL, V.lower])
end Go.Proofs.YtjhfpabldidlgaaGreat.AM

set_option linter.all false
set_option maxRecDepth 100000
set_option maxHeartbeats 8000000
namespace Go.Proofs.YtjhfpabldidlgaaGreat.AM
open Go Go.RowKit

theorem okEl_Fr (l : List Fr) : ∀ e ∈ l.map dFr, okEl 4 e = true := by
  intro e he
  obtain ⟨w, _, rfl⟩ := List.mem_map.1 he
  rfl

theorem o_Clone_Fr (els : List D) (h1 : els.length * 48 ≤ 140737488355328) (h2 : ∀ e ∈ els, okEl 4 e = true) : FSpec Tryz.prog 176 [.vec els] (.own 0 0 els.length) [.dat false 4 els] := by
  refine FSpec.of_awp envOf_ok hmix Tryz.func176 rfl (fun args w => Tryz.call176 args w) (by simp [Tryz.f176]) ?_
  simp only [Tryz.f176]
  simp (maxSteps := 2000000) -implicitDefEqProofs only [zz, zE, evop, ev, ofVal, tget, tput, ok, V.isUndef, initT, Ch.on, told, hget, hput, V.cells, V.isAgg, V.clo, clos, sliceOf, partsD, elems, resOf, resV, resVs, ↓reduceIte, reduceCtorEq, Nat.reduceLT, Nat.reduceEqDiff, Nat.reduceMul, Nat.reduceLeDiff, nilTest]
  refine ⟨fun h => ?_, ⟨h1, h2⟩, ?_⟩
  · subst h
    refine Weak.pick [7] (by simp) (by simp) rfl (fun q hq => ?_) (fun i hi => ?_)
    · obtain rfl : q = _ := by simpa using hq
      exact .nils 0 4 rfl
    · obtain rfl : i = 0 := by simpa using hi
      exact .virt 4 rfl rfl
  · refine Weak.pick [1] (by simp) (by simp) rfl (fun q hq => ?_) (fun i hi => ?_)
    · obtain rfl : q = _ := by simpa using hq
      exact .same _
    · obtain rfl : i = 0 := by simpa using hi
      exact .dat false 4 els rfl rfl

theorem r_x_either (t : Ty) (h : List (Bool × Int)) (r : List (Int × Int)) (x : St) (h1 : t.log.1.length ≤ 1000000) (h2 : t.log.2.length ≤ 1000000) (hpc : 0 ≤ t.pc ∧ t.pc ≤ 1000000) (ha : 0 ≤ x.a ∧ x.a ≤ 1000) (hb : 0 ≤ x.b ∧ x.b ≤ 1000)
    (hf : t.frames.length ≤ 1000000) (hp : t.path.length ≤ 1000000) :
    RSpec Tryz.prog 119 [.ptr 0 0 0, .d (dS x)] [bX t h r] (.tuple []) [bX (eiT t x) h r] := by
  refine RSpec.of_awp envOf_ok hmix Tryz.func119 rfl (fun args w => Tryz.call119 args w) (by simp [Tryz.f119]) ?_
  simp only [Tryz.f119]
  simp (maxSteps := 2000000) -implicitDefEqProofs only [zz, zE, evop, ev, tget, tput, ok, V.isUndef, Ch.on, hget, hput, V.cells, isPtr, Blk.width, ↓reduceIte, reduceCtorEq, Nat.reduceLT, initV, dS]
  unfold bX
  simp (maxSteps := 2000000) -implicitDefEqProofs only [zz, zE, evop, ev, tget, tput, ok, Ch.on, calleeOf, withArgs, hget, structAt, Blk.width, ↓reduceIte, reduceCtorEq, Nat.reduceLT, Nat.reduceAdd, Nat.reduceLeDiff]
  have w1 : IntKind.i64.wrap (t.pc + 1) = t.pc + 1 := by rw [wrap_in (by omega)]
  have w2 : IntKind.i64.wrap (t.pc + 1 + x.a) = t.pc + 1 + x.a := by rw [wrap_in (by omega)]
  have w3 : IntKind.i64.wrap (t.pc + 1 + x.a + x.b) = t.pc + 1 + x.a + x.b := by rw [wrap_in (by omega)]
  have hm := c_W_Mark t.log h1 h2
  unfold dLE at hm
  refine acall_ice' (hm) ?_
  try simp (maxSteps := 2000000) -implicitDefEqProofs only [zz, zE, evop, ev, tget, tput, ok, V.isUndef, Ch.on, tids, tidss, hget, hput, freeze, V.cells, V.one, structAt, isPtr, Blk.width, splice, ↓reduceIte, reduceCtorEq, Nat.reduceLT, Nat.reduceEqDiff, Nat.reduceAdd, Nat.reduceLeDiff, dLg]
  refine wdraw_plan [⟨[], false, [24, 25], [], false⟩, ⟨[0], false, [24, 25], [], false⟩, ⟨[0, 1], false, [24, 25], [], false⟩, ⟨[0, 1, 2], false, [24, 25], [], false⟩, ⟨[0, 1, 2, 3], false, [24, 25], [], false⟩, ⟨[0, 1, 2, 3, 4], false, [24, 25], [], false⟩, ⟨[], false, [18, 19, 20, 21, 22, 23], [0, 1, 2, 3, 4, 5], false⟩, ⟨[6], false, [18, 19, 20, 21, 22, 23], [0, 1, 2, 3, 4, 5], false⟩, ⟨[0, 1, 2, 3, 4, 5, 6, 7], true, [], [], false⟩, ⟨[0, 1, 2, 3, 4, 5, 6, 7, 8], true, [], [], false⟩] (by decide) ?_
  simp (maxSteps := 2000000) -implicitDefEqProofs only [zz, zE, evop, ev, ofVal, tget, tput, ok, V.isUndef, intBin, Ch.on, hget, hput, V.cells, D.cells, V.isAgg, loadD, structAt, isPtr, Blk.width, ↓reduceIte, reduceCtorEq, Nat.reduceLT, Nat.reduceEqDiff, Nat.reduceAdd, Nat.reduceLeDiff, w1, w2]
  refine wdraw_plan [⟨[], false, [27, 28, 29, 30, 31, 32, 33, 34, 35, 36, 37, 38, 39, 40, 41, 42, 43, 44, 45, 46, 47, 48, 49, 50, 51, 52], [], true⟩, ⟨[], false, [27, 34, 35, 36, 37, 38, 39, 40, 41, 42, 43, 44, 45, 46, 47, 48, 49, 50, 51], [0], false⟩, ⟨[1], false, [27, 34, 35, 36, 37, 38, 39, 40, 41, 42, 43, 44, 45, 46, 47, 48, 49, 50, 51], [0], false⟩, ⟨[1, 2], false, [27, 34, 35, 36, 37, 38, 39, 40, 41, 42, 43, 44, 45, 46, 47, 48, 49, 50, 51], [0], false⟩, ⟨[1, 2, 3], false, [27, 34, 35, 36, 37, 38, 39, 40, 41, 42, 43, 44, 45, 46, 47, 48, 49, 50, 51], [0], false⟩, ⟨[1, 2, 3, 4], false, [27, 34, 35, 36, 37, 38, 39, 40, 41, 42, 43, 44, 45, 46, 47, 48, 49, 50, 51], [0], false⟩, ⟨[1, 2, 3, 4, 5], false, [27, 34, 35, 36, 37, 38, 39, 40, 41, 42, 43, 44, 45, 46, 47, 48, 49, 50, 51], [0], false⟩, ⟨[], false, [27, 28, 29, 30, 31, 32, 33, 35, 36, 37, 38, 39, 40, 41, 42, 43, 44, 45, 46, 47, 48, 49], [0, 1, 2, 3, 4, 5, 6], false⟩, ⟨[], false, [27, 28, 29, 30, 31, 32, 33, 34, 36, 37, 39, 40, 41, 42, 43, 44, 45, 46, 47, 48, 49], [0, 1, 2, 3, 4, 5, 6, 7], false⟩, ⟨[], false, [27, 28, 29, 30, 31, 32, 33, 34, 35, 39, 40, 41, 42, 43, 44, 45, 46, 47, 48, 49], [0, 1, 2, 3, 4, 5, 6, 7, 8], false⟩, ⟨[9], false, [27, 28, 29, 30, 31, 32, 33, 34, 35, 39, 40, 41, 42, 43, 44, 45, 46, 47, 48, 49], [0, 1, 2, 3, 4, 5, 6, 7, 8], false⟩, ⟨[8, 9, 10], false, [27, 28, 29, 30, 31, 32, 33, 34, 39, 40, 41, 42, 43, 44, 45, 46, 47, 48, 49], [0, 1, 2, 3, 4, 5, 6, 7], false⟩, ⟨[], false, [27, 28, 29, 30, 31, 32, 33, 34, 35, 36, 37, 38, 45, 46, 47, 48, 49], [0, 1, 2, 3, 4, 5, 6, 7, 8, 9, 10, 11], false⟩, ⟨[12], false, [27, 28, 29, 30, 31, 32, 33, 34, 35, 36, 37, 38, 45, 46, 47, 48, 49], [0, 1, 2, 3, 4, 5, 6, 7, 8, 9, 10, 11], false⟩, ⟨[12, 13], false, [27, 28, 29, 30, 31, 32, 33, 34, 35, 36, 37, 38, 45, 46, 47, 48, 49], [0, 1, 2, 3, 4, 5, 6, 7, 8, 9, 10, 11], false⟩, ⟨[12, 13, 14], false, [27, 28, 29, 30, 31, 32, 33, 34, 35, 36, 37, 38, 45, 46, 47, 48, 49], [0, 1, 2, 3, 4, 5, 6, 7, 8, 9, 10, 11], false⟩, ⟨[12, 13, 14, 15], false, [27, 28, 29, 30, 31, 32, 33, 34, 35, 36, 37, 38, 45, 46, 47, 48, 49], [0, 1, 2, 3, 4, 5, 6, 7, 8, 9, 10, 11], false⟩, ⟨[12, 13, 14, 15, 16], false, [27, 28, 29, 30, 31, 32, 33, 34, 35, 36, 37, 38, 45, 46, 47, 48, 49], [0, 1, 2, 3, 4, 5, 6, 7, 8, 9, 10, 11], false⟩, ⟨[], false, [27, 28, 29, 30, 31, 32, 33, 34, 35, 36, 37, 38, 39, 40, 41, 42, 43, 44], [0, 1, 2, 3, 4, 5, 6, 7, 8, 9, 10, 11, 12, 13, 14, 15, 16, 17], false⟩, ⟨[18], false, [27, 28, 29, 30, 31, 32, 33, 34, 35, 36, 37, 38, 39, 40, 41, 42, 43, 44], [0, 1, 2, 3, 4, 5, 6, 7, 8, 9, 10, 11, 12, 13, 14, 15, 16, 17], false⟩, ⟨[18, 19], false, [27, 28, 29, 30, 31, 32, 33, 34, 35, 36, 37, 38, 39, 40, 41, 42, 43, 44], [0, 1, 2, 3, 4, 5, 6, 7, 8, 9, 10, 11, 12, 13, 14, 15, 16, 17], false⟩, ⟨[18, 19, 20], false, [27, 28, 29, 30, 31, 32, 33, 34, 35, 36, 37, 38, 39, 40, 41, 42, 43, 44], [0, 1, 2, 3, 4, 5, 6, 7, 8, 9, 10, 11, 12, 13, 14, 15, 16, 17], false⟩, ⟨[18, 19, 20, 21], false, [27, 28, 29, 30, 31, 32, 33, 34, 35, 36, 37, 38, 39, 40, 41, 42, 43, 44], [0, 1, 2, 3, 4, 5, 6, 7, 8, 9, 10, 11, 12, 13, 14, 15, 16, 17], false⟩, ⟨[7, 8, 9, 10, 11, 12, 13, 14, 15, 16, 17, 18, 19, 20, 21, 22], false, [27, 28, 29, 30, 31, 32, 33], [0, 1, 2, 3, 4, 5, 6], false⟩, ⟨[7, 8, 9, 10, 11, 12, 13, 14, 15, 16, 17, 18, 19, 20, 21, 22, 23], false, [27, 28, 29, 30, 31, 32, 33], [0, 1, 2, 3, 4, 5, 6], false⟩, ⟨[1, 2, 3, 4, 5, 6, 7, 8, 9, 10, 11, 12, 13, 14, 15, 16, 17, 18, 19, 20, 21, 22, 23, 24], true, [27], [], false⟩, ⟨[0, 1, 2, 3, 4, 5, 6, 7, 8, 9, 10, 11, 12, 13, 14, 15, 16, 17, 18, 19, 20, 21, 22, 23, 24, 25], true, [], [], false⟩, ⟨[0, 1, 2, 3, 4, 5, 6, 7, 8, 9, 10, 11, 12, 13, 14, 15, 16, 17, 18, 19, 20, 21, 22, 23, 24, 25, 26], true, [], [], false⟩, ⟨[0, 1, 2, 3, 4, 5, 6, 7, 8, 9, 10, 11, 12, 13, 14, 15, 16, 17, 18, 19, 20, 21, 22, 23, 24, 25, 26, 27], true, [], [], false⟩, ⟨[0, 1, 2, 3, 4, 5, 6, 7, 8, 9, 10, 11, 12, 13, 14, 15, 16, 17, 18, 19, 20, 21, 22, 23, 24, 25, 26, 27, 28], true, [], [], false⟩] (by decide) ?_
  simp (maxSteps := 2000000) -implicitDefEqProofs only [zz, zE, evop, ev, ofVal, tget, tput, ok, V.isUndef, intBin, calleeOf, withArgs, hget, hput, V.cells, D.cells, V.isAgg, V.one, V.clo, clos, V.toD, loadD, structAt, sliceOf, partsD, partsV, isPtr, Blk.width, elems, lenOf, splice, ↓reduceIte, reduceCtorEq, Nat.reduceLT, Nat.reduceEqDiff, Nat.reduceAdd, Nat.reduceMul, Nat.reduceLeDiff, w3]
  have hcf := o_Clone_Fr (t.frames.map dFr) (by simp; omega) (okEl_Fr _)
  rw [List.length_map] at hcf
  refine dcall_own' (hcf) rfl ?_
  try simp (maxSteps := 2000000) -implicitDefEqProofs only [zz, zE, evop, ev, tget, tput, ok, V.isUndef, Ch.on, calleeOf, withArgs, hget, hput, V.cells, V.one, structAt, isPtr, Blk.width, splice, ↓reduceIte, reduceCtorEq, Nat.reduceLT, Nat.reduceEqDiff, Nat.reduceAdd, Nat.reduceLeDiff, V.ren]
  refine ⟨⟨by omega, okEl_Fr [⟨t.pc + 1 + x.a, t.pc + 1 + x.a + x.b, t.path.length, t.regs⟩]⟩, ?_⟩
  have hci := o_Clone_int (t.path.map dI) (by simp; omega) (okEl_I _)
  rw [List.length_map] at hci
  refine acall_own' (hci) ?_
  try simp (maxSteps := 2000000) -implicitDefEqProofs only [zz, zE, evop, ev, ofVal, tget, tput, ok, V.isUndef, intBin, Ch.on, tids, tidss, hget, hput, freeze, V.cells, D.cells, V.one, V.toD, structAt, sliceOf, partsD, isPtr, Blk.width, elems, splice, resOf, resVs, ↓reduceIte, reduceCtorEq, Nat.reduceLT, Nat.reduceEqDiff, Nat.reduceAdd, Nat.reduceMul, Nat.reduceLeDiff, nilTest, shiftH, Blk.ren, V.ren]
  refine ⟨⟨by omega, okEl_I [1]⟩, ?_⟩
  rw [w1]
  have ht1 : List.take t.frames.length (t.frames.map dFr) = t.frames.map dFr := by rw [List.take_of_length_le]; simp
  have ht2 : List.take t.path.length (t.path.map dI) = t.path.map dI := by rw [List.take_of_length_le]; simp
  refine Weak.close [35, 38] 1 (by simp) ?_ (by simp [tget, sealF, V.lower, lowerL]) (by simp [Blk.lower, lowerL, V.lower])
  simp [sealH, sealB, sealF, freeze, hput, hget, Blk.ice, ht1, ht2, eiT, dFr, dI, List.take_of_length_le]

theorem r_x_again (t : Ty) (h : List (Bool × Int)) (r : List (Int × Int)) (h1 : t.log.1.length ≤ 1000000) (h2 : t.log.2.length ≤ 1000000) (hf : t.frames.length ≤ 1000000) (hp : t.path.length ≤ 1000000)
    (hfr : ∀ f, t.frames.getLast? = some f → 0 ≤ f.long ∧ f.long ≤ t.path.length) :
    RSpec Tryz.prog 117 [.ptr 0 0 0] [bX t h r] (.tuple []) [bX (agT t) h r] := by
  rcases Nat.eq_zero_or_pos t.frames.length with h0 | h0
  · have e : ((t.frames.length : Int) == 0) = true := by simp [h0]
    have hnil : t.frames = [] := List.length_eq_zero_iff.1 h0
    have hst : agT t = endT t 2 0 := by unfold agT; rw [hnil]; rfl
    rw [hst]
    have hr := r_x_end t h r 2 0
    unfold bX at hr
    refine RSpec.of_awp envOf_ok hmix Tryz.func117 rfl (fun args w => Tryz.call117 args w) (by simp [Tryz.f117]) ?_
    simp only [Tryz.f117]
    simp (maxSteps := 2000000) -implicitDefEqProofs only [zz, evop, ev, tget, tput, ok, V.isUndef, Ch.on, hget, isPtr, Blk.width, ↓reduceIte, Nat.reduceLT, initV]
    unfold bX
    simp (maxSteps := 2000000) -implicitDefEqProofs only [zz, zE, evop, ev, ofVal, tget, tput, ok, V.isUndef, intBin, Ch.on, calleeOf, withArgs, told, hget, structAt, sliceOf, Blk.width, lenOf, ↓reduceIte, reduceCtorEq, Nat.reduceLT, Nat.reduceAdd, nilTest, e]
    refine acall_ref [0] (hr) (by first | rfl | simp [renL, V.ren, frρ, renL_ds]) (by simp) rfl (by simp) (by simp) (by intro j hj; match j, hj with | 0, _ => exact ⟨by simp [hget], rfl⟩) ?_
    try simp (maxSteps := 2000000) -implicitDefEqProofs only [zz, tput, hput, resOf, resVs, ↓reduceIte, Nat.reduceLT, Blk.ren, V.ren, renL, frameH, putL]
    exact Weak.trimsM 1 (by simp) rfl (by simp [tget, V.lower, lowerL]) (by simp [Blk.lower, lowerL, V.lower])
  · have e : ((t.frames.length : Int) == 0) = false := by rw [beq_eq_false_iff_ne]; omega
    obtain ⟨f, hx⟩ : ∃ f, t.frames[t.frames.length - 1]? = some f := ⟨_, List.getElem?_eq_getElem (by omega)⟩
    have hgl : t.frames.getLast? = some f := by rw [List.getLast?_eq_getElem?]; exact hx
    obtain ⟨g1, g2⟩ := hfr f hgl
    have hst : agT t = { t with log := (logBack t.log).1, frames := t.frames.dropLast, regs := f.regs, pc := f.mid, path := t.path.take f.long.toNat ++ [2] } := by unfold agT; rw [hgl]
    rw [hst]
    have hwn : IntKind.i64.wrap ((t.frames.length : Int) - 1) = ((t.frames.length - 1 : Nat) : Int) := by rw [wrap_in (by omega)]; omega
    have hb := c_W_Back t.log h1 h2
    unfold dLE at hb
    refine RSpec.of_snd envOf_ok hmix Tryz.func117 rfl (fun args w => Tryz.call117 args w) (by simp [Tryz.f117]) ?_
    simp only [Tryz.f117]
    refine Snd.upto envOf_ok hmix 4 _ ?_
    simp only [hdN, tlN]
    simp (maxSteps := 2000000) -implicitDefEqProofs only [zz, evop, ev, tget, tput, ok, V.isUndef, Ch.on, hget, isPtr, Blk.width, ↓reduceIte, Nat.reduceLT, initV]
    unfold bX
    simp (maxSteps := 2000000) -implicitDefEqProofs only [zz, zE, evop, ev, ofVal, tget, tput, ok, V.isUndef, intBin, Ch.on, calleeOf, withArgs, told, hget, hput, V.cells, D.cells, V.one, loadD, structAt, sliceOf, isPtr, Blk.width, lenOf, splice, ↓reduceIte, reduceCtorEq, Nat.reduceLT, Nat.reduceEqDiff, Nat.reduceAdd, Nat.reduceLeDiff, nilTest, dFr, e, hwn, List.getElem?_map, hx, Option.map_some, Int.natCast_nonneg]
    refine acall_ice' (hb) ?_
    try simp (maxSteps := 2000000) -implicitDefEqProofs only [zz, zE, evop, ev, tget, tput, ok, V.isUndef, Ch.on, tids, tidss, hget, hput, freeze, V.cells, V.one, structAt, isPtr, Blk.width, splice, ↓reduceIte, reduceCtorEq, Nat.reduceLT, Nat.reduceEqDiff, Nat.reduceAdd, Nat.reduceLeDiff, dLg, cutK_normal]
    refine Snd.weak (T' := [(3, .d (.imm (dFr f) 0)), (2, .d (.int .i64 t.frames.length)), (0, .ptr 0 0 0)]) (H' := [bX { t with log := (logBack t.log).1 } h r]) ?_ ?_
    · refine Weak.close [1] 1 (by simp) ?_ (by simp [tget, sealF, xport, xports, tids, tidss, hget, V.lower, dFr, dI]) (by simp [bX, Blk.lower, lowerL, V.lower])
      simp [sealH, sealB, sealF, freeze, hput, hget, Blk.ice, bX]
    refine Snd.of_awp envOf_ok hmix ?_
    have hdl : t.frames.dropLast = t.frames.take (t.frames.length - 1) := by rw [List.dropLast_eq_take]
    have er : List.take (((t.frames.length - 1 : Nat) : Int) - 0).toNat (t.frames.map dFr) = t.frames.dropLast.map dFr := by
      rw [hdl, List.map_take]; simp
    have ep : List.take (f.long - 0).toNat (t.path.map dI) = (t.path.take f.long.toNat).map dI := by
      rw [List.map_take]; simp
    unfold bX
    refine wdraw_plan [⟨[], false, [37, 38, 39, 40, 41, 42, 43, 44, 45, 46, 47, 48, 49, 50], [], false⟩, ⟨[], false, [36, 37, 38, 39, 40, 41, 42, 43, 44, 45, 46, 47, 48, 49, 50, 51, 52, 53], [0], true⟩, ⟨[], false, [36, 37, 38, 39, 40, 41, 42, 43, 44, 45, 46, 47, 48, 49, 50, 51, 52, 53, 54, 55, 56], [0, 1], true⟩, ⟨[], false, [36, 37, 38, 44, 45, 47, 48, 49, 50], [0, 1, 2], false⟩, ⟨[3], false, [36, 37, 38, 44, 45, 47, 48, 49, 50], [0, 1, 2], false⟩, ⟨[3, 4], false, [36, 37, 38, 44, 45, 47, 48, 49, 50], [0, 1, 2], false⟩, ⟨[3, 4, 5], false, [36, 37, 38, 44, 45, 47, 48, 49, 50], [0, 1, 2], false⟩, ⟨[3, 4, 5, 6], false, [36, 37, 38, 44, 45, 47, 48, 49, 50], [0, 1, 2], false⟩, ⟨[], false, [36, 37, 38, 39, 40, 41, 42, 43, 47, 48, 49, 50], [0, 1, 2, 3, 4, 5, 6, 7], false⟩, ⟨[8], false, [36, 37, 38, 39, 40, 41, 42, 43, 47, 48, 49, 50], [0, 1, 2, 3, 4, 5, 6, 7], false⟩, ⟨[3, 4, 5, 6, 7, 8, 9], false, [36, 37, 38, 47, 48, 49, 50], [0, 1, 2], false⟩, ⟨[], false, [36, 37, 38, 39, 40, 41, 42, 43, 44, 45, 46, 47, 48, 49, 50, 51, 52, 53], [0, 1, 2, 3, 4, 5, 6, 7, 8, 9, 10], true⟩, ⟨[11], false, [36, 37, 38, 39, 40, 41, 42, 43, 44, 45, 46, 48, 49, 50, 51, 52, 53], [0, 1, 2, 3, 4, 5, 6, 7, 8, 9, 10], true⟩, ⟨[], false, [36, 37, 38, 39, 40, 41, 42, 43, 44, 45, 46, 47, 48, 49, 50, 51, 52, 53, 54, 55, 56], [0, 1, 2, 3, 4, 5, 6, 7, 8, 9, 10, 11, 12], true⟩, ⟨[13], false, [36, 37, 38, 39, 40, 41, 42, 43, 44, 45, 46, 47, 48, 50, 51, 52, 53, 54, 55, 56], [0, 1, 2, 3, 4, 5, 6, 7, 8, 9, 10, 11, 12], true⟩, ⟨[0, 3, 4, 5, 6, 7, 8, 9, 10], false, [37, 38, 47, 48, 49, 50], [1, 2, 11, 12, 13, 14], false⟩, ⟨[0, 3, 4, 5, 6, 7, 8, 9, 10, 15], false, [37, 38, 47, 48, 49, 50], [1, 2, 11, 12, 13, 14], false⟩, ⟨[0, 3, 4, 5, 6, 7, 8, 9, 10, 15, 16], false, [37, 38, 47, 48, 49, 50], [1, 2, 11, 12, 13, 14], false⟩, ⟨[0, 3, 4, 5, 6, 7, 8, 9, 10, 15, 16, 17], true, [37, 38, 47, 48, 49, 50], [], false⟩, ⟨[0, 1, 3, 4, 5, 6, 7, 8, 9, 10, 11, 12, 15, 16, 17, 18], false, [38, 49, 50], [2, 13, 14], false⟩, ⟨[0, 1, 3, 4, 5, 6, 7, 8, 9, 10, 11, 12, 15, 16, 17, 18, 19], false, [38, 49, 50], [2, 13, 14], false⟩, ⟨[0, 1, 3, 4, 5, 6, 7, 8, 9, 10, 11, 12, 15, 16, 17, 18, 19, 20], false, [38, 49, 50], [2, 13, 14], false⟩, ⟨[0, 1, 3, 4, 5, 6, 7, 8, 9, 10, 11, 12, 15, 16, 17, 18, 19, 20, 21], true, [38, 49, 50], [], false⟩, ⟨[0, 1, 2, 3, 4, 5, 6, 7, 8, 9, 10, 11, 12, 13, 14, 15, 16, 17, 18, 19, 20, 21, 22], true, [], [], false⟩, ⟨[0, 1, 2, 3, 4, 5, 6, 7, 8, 9, 10, 11, 12, 13, 14, 15, 16, 17, 18, 19, 20, 21, 22, 23], true, [], [], false⟩, ⟨[0, 1, 2, 3, 4, 5, 6, 7, 8, 9, 10, 11, 12, 13, 14, 15, 16, 17, 18, 19, 20, 21, 22, 23, 24], true, [], [], false⟩, ⟨[0, 1, 2, 3, 4, 5, 6, 7, 8, 9, 10, 11, 12, 13, 14, 15, 16, 17, 18, 19, 20, 21, 22, 23, 24, 25], true, [], [], false⟩] (by decide) ?_
    simp (maxSteps := 2000000) -implicitDefEqProofs only [zz, zE, evop, ev, ofVal, tget, tput, ok, V.isUndef, intBin, Ch.on, hget, hput, V.cells, D.cells, V.isAgg, V.one, V.clo, clos, loadD, structAt, sliceOf, bound, isPtr, Blk.width, lenOf, splice, D.over, ↓reduceIte, reduceCtorEq, Nat.reduceLT, Nat.reduceEqDiff, Nat.reduceAdd, Nat.reduceSub, Nat.reduceLeDiff, dFr, hwn, Int.natCast_nonneg, er]
    refine ⟨⟨Int.le_refl _, by omega, okCells_Fr _⟩, ?_⟩
    refine wdraw_plan [⟨[], false, [60, 61, 62, 63, 64, 65, 66, 67, 68, 69, 70, 71], [], true⟩, ⟨[], false, [60, 66, 67, 70], [0], false⟩, ⟨[1], false, [60, 66, 67, 70], [0], false⟩, ⟨[1, 2], false, [60, 66, 67, 70], [0], false⟩, ⟨[1, 2, 3], false, [60, 66, 67, 70], [0], false⟩, ⟨[1, 2, 3, 4], false, [60, 66, 67, 70], [0], false⟩, ⟨[], false, [60, 61, 62, 63, 64, 65, 70], [0, 1, 2, 3, 4, 5], false⟩, ⟨[6], false, [60, 61, 62, 63, 64, 65, 70], [0, 1, 2, 3, 4, 5], false⟩, ⟨[1, 2, 3, 4, 5, 6, 7], false, [60, 70], [0], false⟩, ⟨[1, 2, 3, 4, 5, 6, 7, 8], false, [60, 70], [0], false⟩, ⟨[], false, [60, 61, 62, 63, 64, 65, 66, 67, 68, 69], [0, 1, 2, 3, 4, 5, 6, 7, 8, 9], false⟩, ⟨[1, 2, 3, 4, 5, 6, 7, 8, 9, 10], true, [60], [], false⟩, ⟨[0, 1, 2, 3, 4, 5, 6, 7, 8, 9, 10, 11], true, [], [], false⟩, ⟨[0, 1, 2, 3, 4, 5, 6, 7, 8, 9, 10, 11, 12], true, [], [], false⟩, ⟨[0, 1, 2, 3, 4, 5, 6, 7, 8, 9, 10, 11, 12, 13], true, [], [], false⟩, ⟨[0, 1, 2, 3, 4, 5, 6, 7, 8, 9, 10, 11, 12, 13, 14], true, [], [], false⟩] (by decide) ?_
    simp (maxSteps := 2000000) -implicitDefEqProofs only [zz, zE, evop, ev, ofVal, tget, tput, ok, V.isUndef, calleeOf, withArgs, hget, hput, V.cells, D.cells, V.one, V.toD, loadD, structAt, sliceOf, partsD, bound, isPtr, Blk.width, elems, lenOf, ↓reduceIte, reduceCtorEq, Nat.reduceLT, Nat.reduceEqDiff, Nat.reduceAdd, Nat.reduceMul, Nat.reduceLeDiff, ep]
    refine ⟨⟨Int.le_refl _, g1, g2, by intro e he; obtain ⟨w, _, rfl⟩ := List.mem_map.1 he; rfl⟩, ?_⟩
    have hci := o_Clone_int ((t.path.take f.long.toNat).map dI) (by simp; omega) (okEl_I _)
    rw [List.length_map] at hci
    refine dcall_own' (hci) rfl ?_
    try simp (maxSteps := 2000000) -implicitDefEqProofs only [zz, zE, evop, ev, tget, tput, ok, Ch.on, hget, hput, V.cells, V.one, structAt, isPtr, Blk.width, splice, resOf, resVs, ↓reduceIte, reduceCtorEq, Nat.reduceLT, Nat.reduceEqDiff, Nat.reduceAdd, Nat.reduceLeDiff, V.ren]
    refine ⟨⟨by rw [List.length_take]; omega, okEl_I [2]⟩, ?_⟩
    have ht : List.take (List.take f.long.toNat t.path).length (List.map dI (List.take f.long.toNat t.path)) = List.map dI (List.take f.long.toNat t.path) := by rw [List.take_of_length_le]; simp
    rw [ht]
    refine Weak.close [33] 1 (by simp) ?_ (by simp [tget, sealF, V.lower, lowerL]) (by simp [Blk.lower, lowerL, V.lower])
    simp only [sealH, freeze, hput, hget, Blk.ice, List.map_cons, List.map_nil, sealB, sealF, List.take_succ_cons, List.take_zero, List.mem_singleton, if_true, List.drop_zero]
    rw [List.take_of_length_le (by simp)]
    simp [dI]
end Go.Proofs.YtjhfpabldidlgaaGreat.AM

set_option linter.all false
set_option maxRecDepth 100000
set_option maxHeartbeats 8000000
namespace Go.Proofs.YtjhfpabldidlgaaGreat.AM
open Go Go.RowKit

structure Oy where
  kind : Int
  why : Int
  regs : List Int
  path : List Int
  seen : List Int
  writes : List (Int × Int)
theorem c_r11_Same (t : Ty) (h1 : t.regs.length ≤ 1000000) (h2 : t.path.length ≤ 1000000) (h3 : t.reads.length ≤ 1000000) (h4 : t.log.1.length ≤ 1000000) (h5 : t.log.2.length ≤ 1000000) (h6 : t.frames.length ≤ 1000000) (h7 : ∀ f ∈ t.frames, f.regs.length ≤ 1000000) : CSpec Tryz.prog 18 [dT t, dT t] (.bool true) := by
  have hn : ∀ l : List Int, l.length ≤ 1000000 → CSpec Tryz.prog 49 [.vec (l.map dI), .vec (l.map dI)] (.bool true) := fun l hl => by
    have := c_r03_Numbers l l hl hl
    simpa using this
  have hr : CSpec Tryz.prog 59 [.vec (t.reads.map dRd), .vec (t.reads.map dRd)] (.bool true) := by
    have := c_r05_Same t.reads t.reads h3 h3
    simpa using this
  have hg : CSpec Tryz.prog 60 [dLg t.log, dLg t.log] (.bool true) := by
    have := c_Same t.log t.log h4 h5 h4 h5
    simpa using this
  refine CSpec.of_awp envOf_ok hmix Tryz.func18 rfl (fun args w => Tryz.call18 args w) (by simp [Tryz.f18]) ?_
  simp only [Tryz.f18]
  simp (maxSteps := 2000000) -implicitDefEqProofs only [zz, zE, evop, ev, tget, V.isUndef, initT, V.cells, ↓reduceIte]
  unfold dT tyC
  simp (maxSteps := 2000000) -implicitDefEqProofs only [zz, zE, evop, ev, ofVal, tget, tput, ok, V.isUndef, Ch.on, hput, V.cells, ↓reduceIte, reduceCtorEq, Nat.reduceLT, Nat.reduceEqDiff]
  refine wdraw_plan [⟨[], false, [15, 16, 18, 19, 20, 21], [], false⟩, ⟨[0], false, [15, 16, 18, 19, 20, 21], [], false⟩, ⟨[], false, [13, 14, 18, 19, 20, 21], [0, 1], false⟩, ⟨[2], false, [13, 14, 18, 19, 20, 21], [0, 1], false⟩, ⟨[0, 1, 2, 3], false, [18, 19, 20, 21], [], false⟩, ⟨[], false, [13, 14, 15, 16, 17, 20, 21], [0, 1, 2, 3, 4], false⟩, ⟨[5], false, [13, 14, 15, 16, 17, 20, 21], [0, 1, 2, 3, 4], false⟩, ⟨[], false, [13, 14, 15, 16, 17, 18, 19], [0, 1, 2, 3, 4, 5, 6], false⟩, ⟨[7], false, [13, 14, 15, 16, 17, 18, 19], [0, 1, 2, 3, 4, 5, 6], false⟩, ⟨[0, 1, 2, 3, 4, 5, 6, 7, 8], true, [], [], false⟩, ⟨[0, 1, 2, 3, 4, 5, 6, 7, 8, 9], true, [], [], false⟩, ⟨[0, 1, 2, 3, 4, 5, 6, 7, 8, 9, 10], true, [], [], false⟩] (by decide) ?_
  simp (maxSteps := 2000000) -implicitDefEqProofs only [zz, zE, evop, ev, ofVal, tget, tput, ok, V.isUndef, calleeOf, withArgs, hget, hput, D.cells, loadD, structAt, Blk.width, ↓reduceIte, reduceCtorEq, Nat.reduceLT, Nat.reduceEqDiff, Nat.reduceAdd, Nat.reduceLeDiff]
  refine dcall_flat' (hr) rfl ?_
  try skip
  refine acall_flat' (hg) rfl ?_
  try simp (maxSteps := 2000000) -implicitDefEqProofs only [zz, evop, ev, tget, tput, ok, V.isUndef, Ch.on, ↓reduceIte, Nat.reduceLT, Nat.reduceEqDiff, Nat.reduceAdd]
  refine wdraw_plan [⟨[], false, [25, 26, 28, 29, 30, 31], [], false⟩, ⟨[0], false, [25, 26, 28, 29, 30, 31], [], false⟩, ⟨[], false, [23, 24, 28, 29, 30, 31], [0, 1], false⟩, ⟨[2], false, [23, 24, 28, 29, 30, 31], [0, 1], false⟩, ⟨[0, 1, 2, 3], false, [28, 29, 30, 31], [], false⟩, ⟨[], false, [23, 24, 25, 26, 27, 30, 31], [0, 1, 2, 3, 4], false⟩, ⟨[5], false, [23, 24, 25, 26, 27, 30, 31], [0, 1, 2, 3, 4], false⟩, ⟨[], false, [23, 24, 25, 26, 27, 28, 29], [0, 1, 2, 3, 4, 5, 6], false⟩, ⟨[7], false, [23, 24, 25, 26, 27, 28, 29], [0, 1, 2, 3, 4, 5, 6], false⟩, ⟨[0, 1, 2, 3, 4, 5, 6, 7, 8], true, [], [], false⟩, ⟨[0, 1, 2, 3, 4, 5, 6, 7, 8, 9], true, [], [], false⟩, ⟨[0, 1, 2, 3, 4, 5, 6, 7, 8, 9, 10], true, [], [], false⟩] (by decide) ?_
  simp (maxSteps := 2000000) -implicitDefEqProofs only [zz, zE, evop, ev, ofVal, tget, tput, ok, V.isUndef, calleeOf, withArgs, hget, hput, D.cells, loadD, structAt, Blk.width, ↓reduceIte, reduceCtorEq, Nat.reduceLT, Nat.reduceEqDiff, Nat.reduceAdd, Nat.reduceLeDiff]
  refine dcall_flat' (hn t.regs h1) rfl ?_
  try skip
  refine acall_flat' (hn t.path h2) rfl ?_
  try simp (maxSteps := 2000000) -implicitDefEqProofs only [zz, zE, evop, ev, ofVal, tget, tput, ok, V.isUndef, intBin, guardOf, Ch.on, told, hget, structAt, sliceOf, Blk.width, lenOf, ↓reduceIte, reduceCtorEq, Nat.reduceLT, Nat.reduceEqDiff, Nat.reduceAdd, nilTest]
  try skip
  refine wloop_count t.frames.length (fun i => [(9, .d (.int .i64 i)), (2, .d (.imm (dT t) 0)), (3, .d (.imm (dT t) 0))]) (fun _ => []) (fun _ => True) trivial ?_ (fun i hi _ => ?_) (fun _ => ?_)
  · exact Weak.close [0, 1] 0 (by simp) rfl (by simp [tget, sealF, xport, xports, tids, tidss, hget, V.lower, dT, tyC]) (by simp)
  · have hx : t.frames[i]? = some t.frames[i] := List.getElem?_eq_getElem hi
    have h' : ((i : Int) < (t.frames.length : Int)) := by omega
    have hw : IntKind.i64.wrap ((i : Int) + 1) = ((i + 1 : Nat) : Int) := by rw [wrap_in (by omega)]; omega
    simp (maxSteps := 2000000) -implicitDefEqProofs only [zz, zE, evop, ev, tget, tput, ok, V.isUndef, intBin, Ch.on, told, D.cells, loadD, structAt, sliceOf, lenOf, ↓reduceIte, reduceCtorEq, Nat.reduceLT, Nat.reduceEqDiff, nilTest, dT, tyC, h']
    refine wdraw_plan [⟨[], false, [10, 11, 65, 68, 69, 70, 71, 72], [], false⟩, ⟨[0], false, [10, 11, 65, 68, 69, 70, 71, 72], [], false⟩, ⟨[], false, [10, 11, 63, 64, 68, 69, 70, 71, 72], [0, 1], false⟩, ⟨[0, 1, 2], false, [10, 11, 68, 69, 70, 71, 72], [], false⟩, ⟨[0, 1, 2, 3], false, [10, 11, 68, 69, 70, 71, 72], [], false⟩, ⟨[], false, [10, 11, 63, 64, 65, 66, 67, 68, 69, 70, 71, 72], [0, 1, 2, 3, 4], true⟩, ⟨[5], false, [10, 11, 63, 64, 65, 66, 67, 69, 70, 71, 72], [0, 1, 2, 3, 4], true⟩, ⟨[], false, [10, 11, 63, 64, 65, 66, 67, 68, 69, 70, 71, 72], [0, 1, 2, 3, 4, 5, 6], true⟩, ⟨[5, 6, 7], false, [10, 11, 63, 64, 65, 66, 67, 71, 72], [0, 1, 2, 3, 4], true⟩, ⟨[5, 6, 7, 8], false, [10, 11, 63, 64, 65, 66, 67, 72], [0, 1, 2, 3, 4], true⟩, ⟨[], false, [11, 63, 64, 65, 66, 67, 68, 69, 70, 71, 72], [0, 1, 2, 3, 4, 5, 6, 7, 8, 9], false⟩, ⟨[], false, [10, 63, 64, 65, 66, 67, 68, 69, 70, 71, 72], [0, 1, 2, 3, 4, 5, 6, 7, 8, 9, 10], false⟩, ⟨[0, 1, 2, 3, 4, 10, 11], true, [68, 69, 70, 71, 72], [], false⟩, ⟨[0, 1, 2, 3, 4, 5, 6, 7, 8, 9, 10, 11, 12], true, [], [], false⟩] (by decide) ?_
    simp (maxSteps := 2000000) -implicitDefEqProofs only [zz, zE, evop, ev, tget, tput, ok, V.isUndef, Ch.on, calleeOf, withArgs, hget, hput, V.cells, D.cells, V.one, loadD, structAt, Blk.width, splice, D.over, ↓reduceIte, reduceCtorEq, Nat.reduceLT, Nat.reduceEqDiff, Nat.reduceAdd, Nat.reduceLeDiff, dFr, List.getElem?_map, hx, Option.map_some, Int.natCast_nonneg]
    refine acall_flat' (hn t.frames[i].regs (h7 _ (List.getElem_mem hi))) rfl ?_
    try simp (maxSteps := 2000000) -implicitDefEqProofs only [zz, zE, evop, ev, ofVal, tget, tput, ok, V.isUndef, intBin, guardOf, Ch.on, told, hget, structAt, Blk.width, ↓reduceIte, reduceCtorEq, Nat.reduceLT, Nat.reduceEqDiff, Nat.reduceAdd, nilTest]
    simp (maxSteps := 2000000) -implicitDefEqProofs only [hw]
    exact Weak.trims 0 rfl (by simp [tget, V.lower, dT, tyC]) (by simp)
  · have h' : ¬ ((t.frames.length : Int) < (t.frames.length : Int)) := by omega
    simp (maxSteps := 2000000) -implicitDefEqProofs only [zz, zE, evop, ev, tget, tput, ok, V.isUndef, intBin, guardOf, Ch.on, told, xport, D.cells, loadD, structAt, sliceOf, lenOf, resOf, resV, resVs, ↓reduceIte, reduceCtorEq, Nat.reduceLT, Nat.reduceEqDiff, nilTest, dT, tyC, h']

theorem c_law11_Ref (t : Ty) (hf : t.frames.length ≤ 1000000) : CSpec Tryz.prog 19 [dT t] (dT t) := by
  refine CSpec.of_awp envOf_ok hmix Tryz.func19 rfl (fun args w => Tryz.call19 args w) (by simp [Tryz.f19]) ?_
  simp only [Tryz.f19]
  simp (maxSteps := 2000000) -implicitDefEqProofs only [zz, zE, evop, ev, tget, V.isUndef, initT, V.cells, ↓reduceIte]
  unfold dT tyC
  simp (maxSteps := 2000000) -implicitDefEqProofs only [zz, zE, evop, tput, Ch.on, hput, ↓reduceIte, Nat.reduceLT]
  refine wdraw_plan [⟨[], false, [3, 8, 9, 10, 11, 12, 13, 14, 15, 16, 17, 18, 19, 20, 21, 22, 23, 24], [], false⟩, ⟨[0], false, [3, 8, 9, 10, 11, 12, 13, 14, 15, 16, 17, 18, 19, 20, 21, 22, 23, 24], [], false⟩, ⟨[], false, [3, 6, 7, 10, 11, 12, 13, 14, 15, 16, 17, 18, 19, 20, 21, 22, 23, 24], [0, 1], false⟩, ⟨[2], false, [3, 6, 7, 10, 11, 12, 13, 14, 15, 16, 17, 18, 19, 20, 21, 22, 23, 24], [0, 1], false⟩, ⟨[], false, [3, 6, 7, 8, 9, 12, 13, 14, 15, 16, 17, 18, 19, 20, 21, 22, 23, 24], [0, 1, 2, 3], false⟩, ⟨[4], false, [3, 6, 7, 8, 9, 12, 13, 14, 15, 16, 17, 18, 19, 20, 21, 22, 23, 24], [0, 1, 2, 3], false⟩, ⟨[], false, [3, 6, 7, 8, 9, 10, 11, 14, 15, 16, 17, 18, 19, 20, 21, 22, 23, 24], [0, 1, 2, 3, 4, 5], false⟩, ⟨[6], false, [3, 6, 7, 8, 9, 10, 11, 14, 15, 16, 17, 18, 19, 20, 21, 22, 23, 24], [0, 1, 2, 3, 4, 5], false⟩, ⟨[], false, [3, 6, 7, 8, 9, 10, 11, 12, 13, 16, 17, 18, 19, 20, 21, 22, 23, 24], [0, 1, 2, 3, 4, 5, 6, 7], false⟩, ⟨[8], false, [3, 6, 7, 8, 9, 10, 11, 12, 13, 16, 17, 18, 19, 20, 21, 22, 23, 24], [0, 1, 2, 3, 4, 5, 6, 7], false⟩, ⟨[], false, [3, 6, 7, 8, 9, 10, 11, 12, 13, 14, 15, 18, 19, 20, 21, 22, 23, 24], [0, 1, 2, 3, 4, 5, 6, 7, 8, 9], false⟩, ⟨[10], false, [3, 6, 7, 8, 9, 10, 11, 12, 13, 14, 15, 18, 19, 20, 21, 22, 23, 24], [0, 1, 2, 3, 4, 5, 6, 7, 8, 9], false⟩, ⟨[], false, [3, 6, 7, 8, 9, 10, 11, 12, 13, 14, 15, 16, 17, 21, 22, 23, 24], [0, 1, 2, 3, 4, 5, 6, 7, 8, 9, 10, 11], false⟩, ⟨[12], false, [3, 6, 7, 8, 9, 10, 11, 12, 13, 14, 15, 16, 17, 21, 22, 23, 24], [0, 1, 2, 3, 4, 5, 6, 7, 8, 9, 10, 11], false⟩, ⟨[12, 13], false, [3, 6, 7, 8, 9, 10, 11, 12, 13, 14, 15, 16, 17, 21, 22, 23, 24], [0, 1, 2, 3, 4, 5, 6, 7, 8, 9, 10, 11], false⟩, ⟨[], false, [3, 6, 7, 8, 9, 10, 11, 12, 13, 14, 15, 16, 17, 18, 19, 20, 23, 24], [0, 1, 2, 3, 4, 5, 6, 7, 8, 9, 10, 11, 12, 13, 14], false⟩, ⟨[15], false, [3, 6, 7, 8, 9, 10, 11, 12, 13, 14, 15, 16, 17, 18, 19, 20, 23, 24], [0, 1, 2, 3, 4, 5, 6, 7, 8, 9, 10, 11, 12, 13, 14], false⟩, ⟨[], false, [3, 6, 7, 8, 9, 10, 11, 12, 13, 14, 15, 16, 17, 18, 19, 20, 21, 22], [0, 1, 2, 3, 4, 5, 6, 7, 8, 9, 10, 11, 12, 13, 14, 15, 16], false⟩, ⟨[17], false, [3, 6, 7, 8, 9, 10, 11, 12, 13, 14, 15, 16, 17, 18, 19, 20, 21, 22], [0, 1, 2, 3, 4, 5, 6, 7, 8, 9, 10, 11, 12, 13, 14, 15, 16], false⟩, ⟨[0, 1, 2, 3, 4, 5, 6, 7, 8, 9, 10, 11, 12, 13, 14, 15, 16, 17, 18], false, [3], [], false⟩, ⟨[], false, [6, 7, 8, 9, 10, 11, 12, 13, 14, 15, 16, 17, 18, 19, 20, 21, 22, 23, 24, 25], [0, 1, 2, 3, 4, 5, 6, 7, 8, 9, 10, 11, 12, 13, 14, 15, 16, 17, 18, 19], false⟩, ⟨[0, 1, 2, 3, 4, 5, 6, 7, 8, 9, 10, 11, 12, 13, 14, 15, 16, 17, 18, 19, 20], true, [], [], false⟩] (by decide) ?_
  simp (maxSteps := 2000000) -implicitDefEqProofs only [zz, zE, evop, ev, ofVal, tget, tput, ok, V.isUndef, calleeOf, withArgs, hget, hput, V.cells, D.cells, loadD, structAt, partsV, Blk.width, splice, D.over, ↓reduceIte, reduceCtorEq, Nat.reduceLT, Nat.reduceEqDiff, Nat.reduceAdd, Nat.reduceLeDiff]
  have h1 := c_Ref t.log
  refine dcall_still' (h1) rfl ?_
  try simp (maxSteps := 2000000) -implicitDefEqProofs only [zz, zE, evop, ev, ofVal, tget, tput, ok, V.isUndef, Ch.on, hget, hput, V.one, structAt, sliceOf, Blk.width, lenOf, ↓reduceIte, reduceCtorEq, Nat.reduceLT, Nat.reduceEqDiff, Nat.reduceAdd, Nat.reduceLeDiff, dLg]
  refine wloop_count t.frames.length (fun i => [(29, .d (.int .i64 i)), (28, .d (.int .i64 t.frames.length)), (27, .d (.vec (t.frames.map dFr))), (2, .ptr 0 0 0), (3, .ptr 1 0 0)])
    (fun i => [bZ, .box false [.d (.int .i64 t.who), .d (.int .i64 t.snap), .d (.int .i64 t.pc), .d (.vec (t.regs.map dI)), .d (.vec (t.path.map dI)), .d (.vec (t.reads.map dRd)), .d (.vec (t.log.1.map dW)), .d (.vec (t.log.2.map dI)), .own 2 0 i, .d (.int .i64 t.kind), .d (.int .i64 t.why)], .dat false 4 ((t.frames.take i).map dFr)]) (fun _ => True) trivial ?_ (fun i hi _ => ?_) (fun _ => ?_)
  · refine Weak.pick [1, 22, 40] (by decide) (by simp) rfl (fun q hq => ?_) (fun i hi => ?_)
    · simp only [List.mem_cons, List.not_mem_nil, or_false] at hq
      rcases hq with rfl | rfl | rfl | rfl | rfl <;> exact .same _
    · match i, hi with
      | 0, _ => exact .box false _ _ rfl rfl (.cons (.same _) (.cons (.same _) (.cons (.same _) (.cons (.same _) (.cons (.same _) (.cons (.same _) (.cons (.same _) (.cons (.same _) (.cons (.same _) (.cons (.same _) (.cons (.same _) .nil)))))))))))
      | 1, _ => exact .box false _ _ rfl rfl (.cons (.same _) (.cons (.same _) (.cons (.same _) (.cons (.same _) (.cons (.same _) (.cons (.same _) (.cons (.same _) (.cons (.same _) (.cons (.nils 2 4 rfl) (.cons (.same _) (.cons (.same _) .nil)))))))))))
      | 2, _ => exact .virt 4 rfl rfl
      | i + 3, hi => exact absurd hi (by simp)
  · have hx : t.frames[i]? = some t.frames[i] := List.getElem?_eq_getElem hi
    have h' : ((i : Int) < (t.frames.length : Int)) := by omega
    have hw : IntKind.i64.wrap ((i : Int) + 1) = ((i + 1 : Nat) : Int) := by rw [wrap_in (by omega)]; omega
    have hT : t.frames.take (i + 1) = t.frames.take i ++ [t.frames[i]] := by rw [List.take_succ, hx]; rfl
    have e6 : List.take i ((t.frames.take i).map dFr) = (t.frames.take i).map dFr := by rw [List.take_of_length_le]; rw [List.length_map, List.length_take]; omega
    simp (maxSteps := 2000000) -implicitDefEqProofs only [zz, zE, evop, ev, ofVal, tget, tput, ok, V.isUndef, intBin, Ch.on, told, hget, hput, V.cells, D.cells, V.one, V.clo, clos, V.toD, loadD, structAt, sliceOf, partsD, Blk.width, elems, splice, ↓reduceIte, reduceCtorEq, Nat.reduceLT, Nat.reduceEqDiff, Nat.reduceAdd, Nat.reduceMul, Nat.reduceLeDiff, nilTest, dFr, bZ, h', List.getElem?_map, hx, Option.map_some, Int.natCast_nonneg, hw]
    refine ⟨⟨by omega, okEl_Fr [t.frames[i]]⟩, ?_⟩
    rw [hT, e6, List.map_append]
    refine Weak.pick [0, 1, 5] (by decide) (by simp) rfl (fun q hq => ?_) (fun i hi => ?_)
    · simp only [List.mem_cons, List.not_mem_nil, or_false] at hq
      rcases hq with rfl | rfl | rfl | rfl | rfl <;> exact .same _
    · match i, hi with
      | 0, _ => exact .box false _ _ rfl rfl (.cons (.same _) (.cons (.same _) (.cons (.same _) (.cons (.same _) (.cons (.same _) (.cons (.same _) (.cons (.same _) (.cons (.same _) (.cons (.same _) (.cons (.same _) (.cons (.same _) .nil)))))))))))
      | 1, _ => exact .box false _ _ rfl rfl (.cons (.same _) (.cons (.same _) (.cons (.same _) (.cons (.same _) (.cons (.same _) (.cons (.same _) (.cons (.same _) (.cons (.same _) (.cons (.same _) (.cons (.same _) (.cons (.same _) .nil)))))))))))
      | 2, _ => exact .dat _ _ _ rfl rfl
      | i + 3, hi => exact absurd hi (by simp)
  · have h' : ¬ ((t.frames.length : Int) < (t.frames.length : Int)) := by omega
    rw [List.take_length]
    simp (maxSteps := 2000000) -implicitDefEqProofs only [zz, zE, evop, ev, tget, tput, ok, intBin, Ch.on, told, xport, xports, hget, hput, V.cells, V.one, splice, resOf, resV, resVs, ↓reduceIte, Nat.reduceLT, Nat.reduceEqDiff, Nat.reduceAdd, Nat.reduceLeDiff, nilTest, bZ, h']
    rw [List.take_of_length_le (by simp)]
end Go.Proofs.YtjhfpabldidlgaaGreat.AM

set_option linter.all false
set_option maxRecDepth 100000
set_option maxHeartbeats 8000000
namespace Go.Proofs.YtjhfpabldidlgaaGreat.AM
open Go Go.RowKit

theorem c_r12_Right (w : Wl) (h1 : w.heap.length ≤ 1000000) (h2 : w.tab.length ≤ 1000000) : CSpec Tryz.prog 33 [dWl w] (.bool (mayW w)) := by
  have hr := c_r02_Right w.heap h1
  have ht := c_r03_Right w.tab h2
  have hY : mayW w = (heapR w.heap && tableR w.tab && tickR w.clock && !(w.tab.any (newerR w.clock))) := rfl
  generalize mayW w = y at hY ⊢
  refine CSpec.of_awp envOf_ok hmix Tryz.func33 rfl (fun args w => Tryz.call33 args w) (by simp [Tryz.f33]) ?_
  simp only [Tryz.f33]
  simp (maxSteps := 2000000) -implicitDefEqProofs only [zz, zE, evop, ev, tget, V.isUndef, initT, V.cells, ↓reduceIte]
  unfold dWl
  try simp (maxSteps := 2000000) -implicitDefEqProofs only [zz, evop, ev, ofVal, tput, ok, V.isUndef, Ch.on, hput, ↓reduceIte, Nat.reduceLT]
  refine wdraw_plan [⟨[], false, [9, 10], [], false⟩, ⟨[0], false, [9, 10], [], false⟩, ⟨[0, 1], false, [9, 10], [], false⟩, ⟨[], false, [6, 7, 8], [0, 1, 2], false⟩, ⟨[3], false, [6, 7, 8], [0, 1, 2], false⟩, ⟨[0, 1, 2, 3, 4], true, [], [], false⟩, ⟨[0, 1, 2, 3, 4, 5], true, [], [], false⟩, ⟨[0, 1, 2, 3, 4, 5, 6], true, [], [], false⟩] (by decide) ?_
  simp (maxSteps := 2000000) -implicitDefEqProofs only [zz, zE, evop, ev, ofVal, tget, tput, ok, V.isUndef, calleeOf, withArgs, hget, hput, D.cells, loadD, structAt, Blk.width, ↓reduceIte, reduceCtorEq, Nat.reduceLT, Nat.reduceEqDiff, Nat.reduceAdd, Nat.reduceLeDiff]
  refine dcall_flat' (hr) rfl ?_
  try skip
  refine acall_flat' (ht) rfl ?_
  try simp (maxSteps := 2000000) -implicitDefEqProofs only [zz, evop, ev, ofVal, tget, tput, ok, V.isUndef, Ch.on, ↓reduceIte, Nat.reduceLT, Nat.reduceEqDiff, Nat.reduceAdd]
  generalize heapR w.heap = b1 at hY
  generalize tableR w.tab = b2 at hY
  refine wloop_count w.tab.length (fun i => [(5, .d (.int .i64 i)), (1, .d (.imm (dWl w) 0)), (2, .d (.bool false)), (3, .d (.bool b1)), (4, .d (.bool b2))]) (fun _ => []) (fun i => ∀ j < i, ∀ x, w.tab[j]? = some x → newerR w.clock x = false) (fun j hj => by omega) ?_ (fun i hi hI => ?_) (fun hI => ?_)
  · exact Weak.close [0] 0 (by simp) rfl (by simp [tget, sealF, xport, xports, tids, tidss, hget, V.lower, dWl]) (by simp)
  · have hx : w.tab[i]? = some w.tab[i] := List.getElem?_eq_getElem hi
    have h' : ((i : Int) < (w.tab.length : Int)) := by omega
    have hw : IntKind.i64.wrap ((i : Int) + 1) = ((i + 1 : Nat) : Int) := by rw [wrap_in (by omega)]; omega
    have hm : w.tab[i] ∈ w.tab := List.getElem_mem hi
    generalize w.tab[i] = x at hx hm
    simp (maxSteps := 2000000) -implicitDefEqProofs only [zz, zE, evop, ev, tget, tput, ok, V.isUndef, intBin, Ch.on, told, D.cells, loadD, structAt, sliceOf, lenOf, ↓reduceIte, reduceCtorEq, Nat.reduceLT, Nat.reduceEqDiff, nilTest, dWl, h']
    refine wdraw_plan [⟨[], false, [21, 25, 26], [], false⟩, ⟨[0], false, [21, 25, 26], [], false⟩, ⟨[], false, [19, 20, 25, 26], [0, 1], false⟩, ⟨[0, 1, 2], false, [25, 26], [], false⟩, ⟨[0, 1, 2, 3], false, [25, 26], [], false⟩, ⟨[0, 1, 2, 3, 4], false, [25, 26], [], false⟩, ⟨[], false, [19, 20, 21, 22, 23, 24], [0, 1, 2, 3, 4, 5], false⟩, ⟨[6], false, [19, 20, 21, 22, 23, 24], [0, 1, 2, 3, 4, 5], false⟩, ⟨[0, 1, 2, 3, 4, 5, 6, 7], true, [], [], false⟩] (by decide) ?_
    simp (maxSteps := 2000000) -implicitDefEqProofs only [zz, zE, evop, ev, ofVal, tget, tput, ok, V.isUndef, intBin, Ch.on, told, xport, hput, V.cells, D.cells, V.isAgg, loadD, structAt, Blk.width, resOf, resV, resVs, ↓reduceIte, reduceCtorEq, Nat.reduceLT, Nat.reduceEqDiff, Nat.reduceAdd, Nat.reduceLeDiff, nilTest, dW, List.getElem?_map, hx, Option.map_some, Int.natCast_nonneg]
    by_cases e : x.1 > w.clock
    · have ha : w.tab.any (newerR w.clock) = true := List.any_eq_true.2 ⟨x, hm, by simpa [newerR] using e⟩
      rw [ha] at hY
      simp (maxSteps := 2000000) -implicitDefEqProofs only [↓reduceIte, e]
      simp [hY]
    · simp (maxSteps := 2000000) -implicitDefEqProofs only [zz, ↓reduceIte, e, hw]
      refine ⟨fun j hj z hz => ?_, Weak.trims 0 rfl (by simp [tget, V.lower, dWl]) (by simp)⟩
      by_cases g : j = i
      · subst g; rw [hx] at hz; cases hz; simpa [newerR] using e
      · exact hI j (by omega) z hz
  · have h' : ¬ ((w.tab.length : Int) < (w.tab.length : Int)) := by omega
    have ha : w.tab.any (newerR w.clock) = false := by
      rw [List.any_eq_false]
      intro x hx
      obtain ⟨k, hk, rfl⟩ := List.getElem_of_mem hx
      simp [hI k hk _ (List.getElem?_eq_getElem hk)]
    have hY2 : y = (b1 && (b2 && (decide (w.clock ≥ 0) && decide (w.clock ≤ 2147483647)))) := by
      rw [hY, ha]; simp [tickR, Bool.and_assoc]
    cases b1 with
    | false =>
      simp (maxSteps := 2000000) -implicitDefEqProofs only [zz, zE, evop, ev, ofVal, tget, tput, ok, V.isUndef, intBin, guardOf, Ch.on, told, xport, D.cells, loadD, structAt, sliceOf, lenOf, resOf, resV, resVs, ↓reduceIte, reduceCtorEq, Nat.reduceLT, Nat.reduceEqDiff, nilTest, dWl, h']
      rw [hY2]; rfl
    | true =>
    cases b2 with
    | false =>
      simp (maxSteps := 2000000) -implicitDefEqProofs only [zz, zE, evop, ev, ofVal, tget, tput, ok, V.isUndef, intBin, guardOf, Ch.on, told, xport, D.cells, loadD, structAt, sliceOf, lenOf, resOf, resV, resVs, ↓reduceIte, reduceCtorEq, Nat.reduceLT, Nat.reduceEqDiff, nilTest, dWl, h']
      rw [hY2]; rfl
    | true =>
    by_cases c1 : w.clock ≥ 0
    · simp (maxSteps := 2000000) -implicitDefEqProofs only [zz, zE, evop, ev, ofVal, tget, tput, ok, V.isUndef, intBin, guardOf, Ch.on, told, xport, D.cells, loadD, structAt, sliceOf, lenOf, resOf, resV, resVs, ↓reduceIte, reduceCtorEq, Nat.reduceLT, Nat.reduceEqDiff, nilTest, dWl, h', c1]
      rw [hY2]; simp [c1]
    · simp (maxSteps := 2000000) -implicitDefEqProofs only [zz, zE, evop, ev, ofVal, tget, tput, ok, V.isUndef, intBin, guardOf, Ch.on, told, xport, D.cells, loadD, structAt, sliceOf, lenOf, resOf, resV, resVs, ↓reduceIte, reduceCtorEq, Nat.reduceLT, Nat.reduceEqDiff, nilTest, dWl, h', c1]
      rw [hY2]; simp [c1]

theorem c_r12_Begin (t : Ty) : CSpec Tryz.prog 31 [dT t] (.tuple [dCm (begC t), .bool (doneB t)]) := by
  refine CSpec.of_awp envOf_ok hmix Tryz.func31 rfl (fun args w => Tryz.call31 args w) (by simp [Tryz.f31]) ?_
  simp only [Tryz.f31]
  simp (maxSteps := 2000000) -implicitDefEqProofs only [zz, zE, evop, ev, tget, V.isUndef, initT, V.cells, ↓reduceIte]
  unfold dT tyC
  simp (maxSteps := 2000000) -implicitDefEqProofs only [zz, zE, evop, ev, ofVal, tget, tput, ok, V.isUndef, intBin, Ch.on, told, xport, xports, hget, hput, V.cells, V.one, structAt, sliceOf, partsV, Blk.width, lenOf, splice, resOf, resV, resVs, ↓reduceIte, reduceCtorEq, Nat.reduceLT, Nat.reduceEqDiff, Nat.reduceAdd, Nat.reduceLeDiff, nilTest]
  by_cases hk : t.kind = 1
  case neg =>
    have e : (t.kind != 1) = true := by simpa using hk
    have hb : begC t = zeroCm := by unfold begC; rw [if_neg hk]
    have hd : doneB t = false := by simp [doneB, hk]
    rw [hb, hd]
    simp (maxSteps := 2000000) -implicitDefEqProofs only [↓reduceIte, e]
    rfl
  have e : (t.kind != 1) = false := by simpa using hk
  have hd : doneB t = true := by simp [doneB, hk]
  by_cases hl : t.log.1.length = 0
  · have e2 : ((t.log.1.length : Int) == 0) = true := by simp [hl]
    have hb : begC t = ⟨t, 5, t.snap, 0⟩ := by unfold begC; rw [if_pos hk, if_pos hl]
    rw [hb, hd]
    unfold dCm cmC
    simp (maxSteps := 2000000) -implicitDefEqProofs only [zz, ↓reduceIte, e, e2]
  · have e2 : ((t.log.1.length : Int) == 0) = false := by rw [beq_eq_false_iff_ne]; omega
    have hb : begC t = ⟨t, 0, 0, 0⟩ := by unfold begC; rw [if_pos hk, if_neg hl]
    rw [hb, hd]
    unfold dCm cmC
    simp (maxSteps := 2000000) -implicitDefEqProofs only [zz, ↓reduceIte, e, e2]

theorem c_r12_cells (c : Cm) (hg : logR c.t.log = true) : CSpec Tryz.prog 87 [dCm c] (.vec ((cellsC c).map dI)) := by
  have hlen := logR_len hg
  have hll := lastW_len c.t.log.1
  have h2 := c_r06_Last c.t.log (logR_nonneg hg) (by omega)
  have hcc : cellsC c = (lastW c.t.log.1).map fun x => x.1 := rfl
  have hL : (lastW c.t.log.1).length ≤ 24 := by omega
  generalize cellsC c = cs at hcc ⊢
  generalize lastW c.t.log.1 = L at h2 hcc hL
  refine CSpec.of_awp envOf_ok hmix Tryz.func87 rfl (fun args w => Tryz.call87 args w) (by simp [Tryz.f87]) ?_
  simp only [Tryz.f87]
  simp (maxSteps := 2000000) -implicitDefEqProofs only [zz, zE, evop, ev, tget, V.isUndef, initT, V.cells, ↓reduceIte]
  unfold dCm cmC
  simp (maxSteps := 2000000) -implicitDefEqProofs only [zz, zE, evop, ev, ofVal, tget, tput, ok, V.isUndef, Ch.on, calleeOf, withArgs, hget, hput, structAt, Blk.width, ↓reduceIte, reduceCtorEq, Nat.reduceLT, Nat.reduceEqDiff, Nat.reduceAdd, Nat.reduceLeDiff]
  refine acall_ice' (h2) ?_
  try simp (maxSteps := 2000000) -implicitDefEqProofs only [zz, evop, ev, ofVal, tget, tput, ok, V.isUndef, Ch.on, tids, tidss, freeze, ↓reduceIte, Nat.reduceLT]
  refine wloop_count L.length (fun i => [(5, .d (.int .i64 i)), (4, .d (.vec (L.map dW))), (3, .own 0 0 i)]) (fun i => [.dat false 1 (((L.take i).map fun x => x.1).map dI)]) (fun _ => True) trivial ?_ (fun i hi _ => ?_) (fun _ => ?_)
  · first
    | exact Weak.pick [9] (by decide) (by simp) rfl (fun q hq => by
        simp only [List.mem_cons, List.not_mem_nil, or_false] at hq
        rcases hq with rfl | rfl | rfl <;> first | exact .same _ | exact .nils 0 1 rfl) (fun i hi => by
        match i, hi with
        | 0, _ => first | exact .dat _ _ _ rfl rfl | exact .virt 1 rfl rfl
        | i + 1, hi => exact absurd hi (by simp))
  · have hx : L[i]? = some L[i] := List.getElem?_eq_getElem hi
    have h' : ((i : Int) < (L.length : Int)) := by omega
    have hw : IntKind.i64.wrap ((i : Int) + 1) = ((i + 1 : Nat) : Int) := by rw [wrap_in (by omega)]; omega
    have hT : (L.take (i + 1)).map (fun x => x.1) = (L.take i).map (fun x => x.1) ++ [L[i].1] := by rw [List.take_succ, hx, List.map_append]; rfl
    have e6 : List.take i (((L.take i).map fun x => x.1).map dI) = ((L.take i).map fun x => x.1).map dI := by rw [List.take_of_length_le]; simp; omega
    generalize L[i] = x at hx hT
    simp (maxSteps := 2000000) -implicitDefEqProofs only [zz, zE, evop, ev, ofVal, tget, tput, ok, V.isUndef, intBin, Ch.on, told, hget, hput, V.cells, D.cells, V.one, V.toD, loadD, structAt, sliceOf, partsD, elems, lenOf, ↓reduceIte, reduceCtorEq, Nat.reduceLT, Nat.reduceEqDiff, Nat.reduceAdd, Nat.reduceMul, Nat.reduceLeDiff, nilTest, dW, h', List.getElem?_map, hx, Option.map_some, Int.natCast_nonneg, hw]
    refine ⟨⟨by omega, okEl_I [x.1]⟩, ?_⟩
    rw [hT, e6, List.map_append]
    first
    | exact Weak.pick [2] (by decide) (by simp) rfl (fun q hq => by
        simp only [List.mem_cons, List.not_mem_nil, or_false] at hq
        rcases hq with rfl | rfl | rfl <;> first | exact .same _ | exact .nils 0 1 rfl) (fun i hi => by
        match i, hi with
        | 0, _ => first | exact .dat _ _ _ rfl rfl | exact .virt 1 rfl rfl
        | i + 1, hi => exact absurd hi (by simp))
    | exact Weak.pick [1] (by decide) (by simp) rfl (fun q hq => by
        simp only [List.mem_cons, List.not_mem_nil, or_false] at hq
        rcases hq with rfl | rfl | rfl <;> first | exact .same _ | exact .nils 0 1 rfl) (fun i hi => by
        match i, hi with
        | 0, _ => first | exact .dat _ _ _ rfl rfl | exact .virt 1 rfl rfl
        | i + 1, hi => exact absurd hi (by simp))
    | exact Weak.pick [3] (by decide) (by simp) rfl (fun q hq => by
        simp only [List.mem_cons, List.not_mem_nil, or_false] at hq
        rcases hq with rfl | rfl | rfl <;> first | exact .same _ | exact .nils 0 1 rfl) (fun i hi => by
        match i, hi with
        | 0, _ => first | exact .dat _ _ _ rfl rfl | exact .virt 1 rfl rfl
        | i + 1, hi => exact absurd hi (by simp))
  · have h' : ¬ ((L.length : Int) < (L.length : Int)) := by omega
    have hcl2 : cs.length = L.length := by rw [hcc]; simp
    rw [List.take_length, ← hcc]
    simp (maxSteps := 2000000) -implicitDefEqProofs only [zz, zE, evop, ev, tget, tput, ok, V.isUndef, intBin, Ch.on, told, xport, hget, sliceOf, lenOf, resOf, resV, resVs, ↓reduceIte, Nat.reduceLT, Nat.reduceEqDiff, nilTest, h']
    rw [List.take_of_length_le (by simp [hcl2])]

theorem c_r12_out (c : Cm) (w : Wl) (e : Int) (hl : w.tab.length ≤ 1000000) : CSpec Tryz.prog 88 [dCm c, dWl w, .int .i64 e] (.tuple [dCm (goneC c w e).1, dWl (goneC c w e).2]) := by
  have h1 := c_r03_Let w.tab c.t.who hl
  refine CSpec.of_awp envOf_ok hmix Tryz.func88 rfl (fun args w => Tryz.call88 args w) (by simp [Tryz.f88]) ?_
  simp only [Tryz.f88]
  simp (maxSteps := 2000000) -implicitDefEqProofs only [zz, zE, evop, ev, tget, V.isUndef, initT, V.cells, ↓reduceIte, Nat.reduceAdd]
  unfold dCm cmC dWl goneC
  simp (maxSteps := 2000000) -implicitDefEqProofs only [zz, zE, evop, ev, tget, tput, V.isUndef, Ch.on, hput, V.cells, ↓reduceIte, reduceCtorEq, Nat.reduceLT, Nat.reduceEqDiff, Nat.reduceAdd]
  refine wdraw_weak (Weak.sealed (T' := [(2, .d (.int .i64 e)), (3, .d (.imm (dCm c) 0)), (4, .d (.imm (dWl w) 0)), (6, .ptr 2 0 0), (7, .ptr 3 0 0)]) [0, 1] (by simp [tget, sealF, xport, xports, tids, tidss, hget, dCm, cmC, dWl])) [⟨[], false, [10, 12, 13, 14, 15, 16, 17, 18, 19, 20, 21, 22], [], false⟩, ⟨[0], false, [10, 12, 13, 14, 15, 16, 17, 18, 19, 20, 21, 22], [], false⟩, ⟨[], false, [8, 9, 12, 13, 14, 15, 16, 17, 18, 19, 20, 21, 22], [0, 1], false⟩, ⟨[0, 1, 2], false, [12, 13, 14, 15, 16, 17, 18, 19, 20, 21, 22], [], false⟩, ⟨[], false, [8, 9, 10, 11, 12, 13, 14, 15, 16, 17, 18, 19, 20, 21, 22], [0, 1, 2, 3], true⟩, ⟨[4], false, [8, 9, 10, 11, 13, 14, 15, 16, 17, 18, 19, 20, 21, 22], [0, 1, 2, 3], true⟩, ⟨[], false, [8, 9, 10, 11, 12, 13, 16, 17, 18, 20, 21], [0, 1, 2, 3, 4, 5], false⟩, ⟨[6], false, [8, 9, 10, 11, 12, 13, 16, 17, 18, 20, 21], [0, 1, 2, 3, 4, 5], false⟩, ⟨[], false, [8, 9, 10, 11, 12, 13, 14, 15, 20, 21], [0, 1, 2, 3, 4, 5, 6, 7], false⟩, ⟨[8], false, [8, 9, 10, 11, 12, 13, 14, 15, 20, 21], [0, 1, 2, 3, 4, 5, 6, 7], false⟩, ⟨[8, 9], false, [8, 9, 10, 11, 12, 13, 14, 15, 20, 21], [0, 1, 2, 3, 4, 5, 6, 7], false⟩, ⟨[6, 7, 8, 9, 10], false, [8, 9, 10, 11, 12, 13, 20, 21], [0, 1, 2, 3, 4, 5], false⟩, ⟨[], false, [8, 9, 10, 11, 12, 13, 14, 15, 16, 17, 18, 19, 20, 21, 22], [0, 1, 2, 3, 4, 5, 6, 7, 8, 9, 10, 11], true⟩, ⟨[12], false, [8, 9, 10, 11, 12, 13, 14, 15, 16, 17, 18, 19, 21, 22], [0, 1, 2, 3, 4, 5, 6, 7, 8, 9, 10, 11], true⟩, ⟨[4, 5, 6, 7, 8, 9, 10, 11, 12, 13], false, [8, 9, 10, 11, 22], [0, 1, 2, 3], true⟩, ⟨[0, 1, 2, 3, 6, 7, 8, 9, 10, 11], true, [12, 13, 20, 21, 22], [], false⟩, ⟨[0, 1, 2, 3, 4, 5, 6, 7, 8, 9, 10, 11, 12, 13, 14, 15], true, [], [], false⟩] (by decide) ?_
  simp only [sealH, AM.freeze, hput, hget, Blk.ice, List.map_cons, List.map_nil, sealB, sealF, List.mem_cons, dCm, cmC, dWl]
  simp (maxSteps := 2000000) -implicitDefEqProofs only [zz, zE, evop, ev, ofVal, tget, tput, ok, V.isUndef, Ch.on, calleeOf, withArgs, hget, hput, V.cells, D.cells, V.one, loadD, structAt, partsV, Blk.width, splice, ↓reduceIte, reduceCtorEq, Nat.reduceLT, Nat.reduceEqDiff, Nat.reduceAdd, Nat.reduceLeDiff]
  refine dcall_still' (h1) rfl ?_
  try simp (maxSteps := 2000000) -implicitDefEqProofs only [zz, zE, tget, tput, Ch.on, xport, xports, hget, hput, V.one, resOf, resV, resVs, ↓reduceIte, Nat.reduceEqDiff, Nat.reduceAdd, Nat.reduceLeDiff]

theorem c_r12_Same (c : Cm) (h : CSpec Tryz.prog 18 [dT c.t, dT c.t] (.bool true)) : CSpec Tryz.prog 35 [dCm c, dCm c] (.bool true) := by
  unfold dT tyC at h
  refine CSpec.of_awp envOf_ok hmix Tryz.func35 rfl (fun args w => Tryz.call35 args w) (by simp [Tryz.f35]) ?_
  simp only [Tryz.f35]
  simp (maxSteps := 2000000) -implicitDefEqProofs only [zz, zE, evop, ev, tget, V.isUndef, initT, V.cells, ↓reduceIte]
  unfold dCm cmC
  simp (maxSteps := 2000000) -implicitDefEqProofs only [zz, zE, evop, ev, ofVal, tget, tput, ok, V.isUndef, Ch.on, calleeOf, withArgs, hget, hput, V.cells, structAt, Blk.width, ↓reduceIte, reduceCtorEq, Nat.reduceLT, Nat.reduceEqDiff, Nat.reduceAdd, Nat.reduceLeDiff]
  refine acall_flat' (h) rfl ?_
  try simp (maxSteps := 2000000) -implicitDefEqProofs only [zz, zE, evop, ev, tget, tput, ok, V.isUndef, intBin, guardOf, Ch.on, xport, hget, structAt, Blk.width, resOf, resV, resVs, ↓reduceIte, reduceCtorEq, Nat.reduceLT, Nat.reduceEqDiff, Nat.reduceAdd, nilTest]
  try skip

theorem c_r12_Worlds (w : Wl) (h1 : w.heap.length ≤ 1000000) (h2 : w.tab.length ≤ 1000000) : CSpec Tryz.prog 41 [dWl w, dWl w] (.bool true) := by
  have a := c_r02_Same w.heap w.heap h1 h1
  have b := c_r03_Same w.tab w.tab h2 h2
  rw [decide_eq_true rfl] at a b
  refine CSpec.of_awp envOf_ok hmix Tryz.func41 rfl (fun args w => Tryz.call41 args w) (by simp [Tryz.f41]) ?_
  simp only [Tryz.f41]
  simp (maxSteps := 2000000) -implicitDefEqProofs only [zz, zE, evop, ev, tget, V.isUndef, initT, V.cells, ↓reduceIte]
  unfold dWl
  try simp (maxSteps := 2000000) -implicitDefEqProofs only [zz, zE, evop, ev, ofVal, tget, tput, ok, V.isUndef, Ch.on, hput, V.cells, ↓reduceIte, reduceCtorEq, Nat.reduceLT, Nat.reduceEqDiff]
  refine wdraw_plan [⟨[], false, [9, 10, 12, 13, 14, 15], [], false⟩, ⟨[0], false, [9, 10, 12, 13, 14, 15], [], false⟩, ⟨[], false, [7, 8, 12, 13, 14, 15], [0, 1], false⟩, ⟨[2], false, [7, 8, 12, 13, 14, 15], [0, 1], false⟩, ⟨[0, 1, 2, 3], false, [12, 13, 14, 15], [], false⟩, ⟨[], false, [7, 8, 9, 10, 11, 14, 15], [0, 1, 2, 3, 4], false⟩, ⟨[5], false, [7, 8, 9, 10, 11, 14, 15], [0, 1, 2, 3, 4], false⟩, ⟨[], false, [7, 8, 9, 10, 11, 12, 13], [0, 1, 2, 3, 4, 5, 6], false⟩, ⟨[7], false, [7, 8, 9, 10, 11, 12, 13], [0, 1, 2, 3, 4, 5, 6], false⟩, ⟨[0, 1, 2, 3, 4, 5, 6, 7, 8], true, [], [], false⟩, ⟨[0, 1, 2, 3, 4, 5, 6, 7, 8, 9], true, [], [], false⟩, ⟨[0, 1, 2, 3, 4, 5, 6, 7, 8, 9, 10], true, [], [], false⟩] (by decide) ?_
  simp (maxSteps := 2000000) -implicitDefEqProofs only [zz, zE, evop, ev, ofVal, tget, tput, ok, V.isUndef, calleeOf, withArgs, hget, hput, D.cells, loadD, structAt, Blk.width, ↓reduceIte, reduceCtorEq, Nat.reduceLT, Nat.reduceEqDiff, Nat.reduceAdd, Nat.reduceLeDiff]
  refine dcall_flat' (a) rfl ?_
  try skip
  refine acall_flat' (b) rfl ?_
  try simp (maxSteps := 2000000) -implicitDefEqProofs only [zz, zE, evop, ev, tget, tput, ok, V.isUndef, intBin, guardOf, Ch.on, xport, hget, structAt, Blk.width, resOf, resV, resVs, ↓reduceIte, reduceCtorEq, Nat.reduceLT, Nat.reduceEqDiff, Nat.reduceAdd, nilTest]
  try skip
end Go.Proofs.YtjhfpabldidlgaaGreat.AM

set_option linter.all false
set_option maxRecDepth 100000
set_option maxHeartbeats 4000000
namespace Go.Proofs.YtjhfpabldidlgaaGreat.AM
open Go Go.RowKit

end Go.Proofs.YtjhfpabldidlgaaGreat.AM

set_option linter.all false
set_option maxRecDepth 100000
set_option maxHeartbeats 4000000
namespace Go.Proofs.YtjhfpabldidlgaaGreat.AM
open Go Go.RowKit

theorem lastW_find {ws : List (Int × Int)} {p : Int × Int} (h : p ∈ lastW ws) : (lastW ws).find? (pW p.1) = some p := by
  cases e : (lastW ws).find? (pW p.1) with
  | none =>
    have := List.find?_eq_none.1 e p h
    simp [pW] at this
  | some q =>
    have hq := List.mem_of_find?_eq_some e
    have hq1 : q.1 = p.1 := by have := List.find?_some e; simpa [pW] using this
    obtain ⟨i, hi, rfl⟩ := List.getElem_of_mem hq
    obtain ⟨j, hj, rfl⟩ := List.getElem_of_mem h
    have hu := List.pairwise_iff_getElem.1 (up_lastW ws)
    rcases Nat.lt_trichotomy i j with g | g | g
    · have := hu i j hi hj g; omega
    · subst g; rfl
    · have := hu j i hj hi g; omega

theorem lastW_mem {ws : List (Int × Int)} {p : Int × Int} (h : p ∈ lastW ws) : p ∈ ws := by
  have e := lastW_find h
  rw [find_lastW] at e
  simpa using List.mem_of_find?_eq_some e

theorem heapPut_len (h : List (Bool × Int)) (ws : List (Int × Int)) : (heapPut h ws).1.length = h.length := by
  unfold heapPut
  split
  · split
    · exact putsH_len h ws
    · rfl
  · rfl

end Go.Proofs.YtjhfpabldidlgaaGreat.AM

set_option linter.all false
set_option maxRecDepth 100000
set_option maxHeartbeats 8000000
namespace Go.Proofs.YtjhfpabldidlgaaGreat.AM
open Go Go.RowKit

theorem lockR_err {t : List (Int × Int)} {who : Int} {cs : List Int} (h : (lockR t who cs).2 ≠ 0) : (lockR t who cs).1 = t := by
  unfold lockR at h ⊢
  split
  · rename_i h1
    rw [if_pos h1] at h
    split
    · rfl
    · rename_i h2
      rw [if_neg h2] at h
      simp at h
  · rfl
theorem stampR_err {t : List (Int × Int)} {who v : Int} (h : (stampR t who v).2 ≠ 0) : (stampR t who v).1 = t := by
  unfold stampR at h ⊢
  split
  · rename_i h1
    rw [if_pos h1] at h
    split
    · rfl
    · rename_i h2
      rw [if_neg h2] at h
      simp at h
  · rfl
theorem heapPut_err {h : List (Bool × Int)} {ws : List (Int × Int)} (he : (heapPut h ws).2 ≠ 0) : (heapPut h ws).1 = h := by
  unfold heapPut at he ⊢
  split
  · rename_i h1
    rw [if_pos h1] at he
    split
    · rename_i h2
      rw [if_pos h2] at he
      simp at he
    · rfl
  · rfl

theorem stp_0 {c : Cm} {w : Wl} (h : c.phase = 0) : stpC c w = if (lockR w.tab c.t.who (cellsC c)).2 ≠ 0 then goneC c w (lockR w.tab c.t.who (cellsC c)).2 else ({ c with phase := c.phase + 1 }, { w with tab := (lockR w.tab c.t.who (cellsC c)).1 }) := by
  unfold stpC phaseW
  simp only [if_pos h]
  split
  · rename_i g; rw [lockR_err g]
  · rfl
theorem stp_1 {c : Cm} {w : Wl} (h : c.phase = 1) (hw : mayW w = true) : stpC c w = if w.clock = 2147483647 then goneC c w 6 else ({ c with version := w.clock + 1, phase := c.phase + 1 }, { w with clock := w.clock + 1 }) := by
  simp only [mayW, Bool.and_eq_true] at hw
  unfold stpC phaseW tickNext
  simp only [if_neg (show ¬ c.phase = 0 by omega), if_pos h, if_pos hw.1.2]
  by_cases g : w.clock = 2147483647
  · simp [g]
  · simp [g]
theorem stp_2 {c : Cm} {w : Wl} (h : c.phase = 2) : stpC c w = if validR c.t.reads w.tab c.t.who ≠ 0 then goneC c w (validR c.t.reads w.tab c.t.who) else ({ c with phase := c.phase + 1 }, w) := by
  unfold stpC phaseW
  simp only [if_neg (show ¬ c.phase = 0 by omega), if_neg (show ¬ c.phase = 1 by omega), if_pos h]
theorem stp_3 {c : Cm} {w : Wl} (h : c.phase = 3) : stpC c w = if (heapPut w.heap (lastW c.t.log.1)).2 ≠ 0 then goneC c w (heapPut w.heap (lastW c.t.log.1)).2 else ({ c with phase := c.phase + 1 }, { w with heap := (heapPut w.heap (lastW c.t.log.1)).1 }) := by
  unfold stpC phaseW
  simp only [if_neg (show ¬ c.phase = 0 by omega), if_neg (show ¬ c.phase = 1 by omega), if_neg (show ¬ c.phase = 2 by omega), if_pos h]
  split
  · rename_i g; rw [heapPut_err g]
  · rfl
theorem stp_4 {c : Cm} {w : Wl} (h : c.phase = 4) : stpC c w = if (stampR w.tab c.t.who c.version).2 ≠ 0 then goneC c w (stampR w.tab c.t.who c.version).2 else ({ c with phase := c.phase + 1 }, { w with tab := (stampR w.tab c.t.who c.version).1 }) := by
  unfold stpC phaseW
  simp only [if_neg (show ¬ c.phase = 0 by omega), if_neg (show ¬ c.phase = 1 by omega), if_neg (show ¬ c.phase = 2 by omega), if_neg (show ¬ c.phase = 3 by omega)]
  split
  · rename_i g; rw [stampR_err g]
  · rfl

theorem last_span {l : Lg} (h : logR l = true) : ∀ w ∈ lastW l.1, spanR w.2 = true := by
  intro w hw
  obtain ⟨hg, x, hx, he⟩ := lastW_get hw
  have hm := lastW_mem hw
  have := (qlogR.1 h).2.2.1 _ hm
  simp only [wrongW, Bool.or_eq_false_iff, Bool.not_eq_false'] at this
  exact this.2

structure CmWell (c : Cm) : Prop extends CmOk c where
  rds : readsR c.t.reads = true
  who : whoB c.t.who = true
  err : 0 ≤ c.phase → c.phase < 5 → c.err = 0

theorem c_r12_Step (c : Cm) (w : Wl) (hc : CmWell c) (hl1 : w.heap.length ≤ 1000000) (hl2 : w.tab.length ≤ 1000000) : CSpec Tryz.prog 38 [dCm c, dWl w] (.tuple [dCm (cmStep c w).1, dWl (cmStep c w).2, .bool (mayC c w)]) := by
  have hr := c_r12_Right w hl1 hl2
  have bad : mayC c w = false → cmStep c w = (c, w) := fun h => by simp [cmStep, h]
  by_cases hm : mayC c w = true
  case neg =>
    have hm' : mayC c w = false := by simpa using hm
    rw [bad hm', hm']
    refine CSpec.of_awp envOf_ok hmix Tryz.func38 rfl (fun args w => Tryz.call38 args w) (by simp [Tryz.f38]) ?_
    simp only [Tryz.f38]
    simp (maxSteps := 2000000) -implicitDefEqProofs only [zz, zE, evop, ev, tget, V.isUndef, initT, V.cells, ↓reduceIte]
    unfold dCm cmC dWl
    unfold dWl at hr
    simp (maxSteps := 2000000) -implicitDefEqProofs only [zz, zE, evop, ev, ofVal, tget, tput, ok, V.isUndef, Ch.on, calleeOf, withArgs, hget, hput, V.cells, ↓reduceIte, reduceCtorEq, Nat.reduceLT, Nat.reduceEqDiff, Nat.reduceAdd, Nat.reduceLeDiff]
    refine acall_flat' (hr) rfl ?_
    try simp (maxSteps := 2000000) -implicitDefEqProofs only [zz, zE, evop, ev, ofVal, tget, tput, ok, V.isUndef, intBin, guardOf, Ch.on, calleeOf, withArgs, told, hget, hput, V.cells, V.one, structAt, partsV, Blk.width, splice, ↓reduceIte, reduceCtorEq, Nat.reduceLT, Nat.reduceEqDiff, Nat.reduceAdd, Nat.reduceLeDiff, nilTest]
    cases h0 : mayW w with
    | false =>
      simp (maxSteps := 2000000) -implicitDefEqProofs only [zz, ↓reduceIte]
      refine wdraw_weak (Weak.sealed (T' := [(2, .d (.imm (dCm c) 0)), (3, .d (.imm (dWl w) 0)), (4, .ptr 2 0 0), (5, .ptr 3 0 0)]) [0, 1] (by simp [tget, sealF, xport, xports, tids, tidss, hget, dCm, cmC, dWl])) [⟨[], false, [41], [], false⟩, ⟨[], false, [40, 41], [0], true⟩, ⟨[0], true, [41], [], false⟩, ⟨[0, 1, 2], true, [], [], false⟩, ⟨[0, 1, 2, 3], true, [], [], false⟩] (by decide) ?_
      simp only [sealH, AM.freeze, hput, hget, Blk.ice, List.map_cons, List.map_nil, sealB, sealF, List.mem_cons, List.mem_singleton, dCm, cmC, dWl]
      simp (maxSteps := 2000000) -implicitDefEqProofs only [zz, zE, evop, ev, ofVal, tget, tput, ok, V.isUndef, Ch.on, xport, xports, hget, hput, V.cells, D.cells, V.one, loadD, splice, resOf, resV, resVs, ↓reduceIte, Nat.reduceLT, Nat.reduceEqDiff, Nat.reduceAdd, Nat.reduceLeDiff]
    | true =>
      by_cases p0 : c.phase < 0
      · simp (maxSteps := 2000000) -implicitDefEqProofs only [zz, ↓reduceIte, p0]
        refine wdraw_weak (Weak.sealed (T' := [(2, .d (.imm (dCm c) 0)), (3, .d (.imm (dWl w) 0)), (4, .ptr 2 0 0), (5, .ptr 3 0 0)]) [0, 1] (by simp [tget, sealF, xport, xports, tids, tidss, hget, dCm, cmC, dWl])) [⟨[], false, [41], [], false⟩, ⟨[], false, [40, 41], [0], true⟩, ⟨[0], true, [41], [], false⟩, ⟨[0, 1, 2], true, [], [], false⟩, ⟨[0, 1, 2, 3], true, [], [], false⟩] (by decide) ?_
        simp only [sealH, AM.freeze, hput, hget, Blk.ice, List.map_cons, List.map_nil, sealB, sealF, List.mem_cons, List.mem_singleton, dCm, cmC, dWl]
        simp (maxSteps := 2000000) -implicitDefEqProofs only [zz, zE, evop, ev, ofVal, tget, tput, ok, V.isUndef, Ch.on, xport, xports, hget, hput, V.cells, D.cells, V.one, loadD, splice, resOf, resV, resVs, ↓reduceIte, Nat.reduceLT, Nat.reduceEqDiff, Nat.reduceAdd, Nat.reduceLeDiff]
      · have p5 : c.phase > 4 := by
          refine Classical.byContradiction fun g => hm ?_
          have a1 : 0 ≤ c.phase := by omega
          have a2 : c.phase < 5 := by omega
          simp [mayC, h0, a1, a2]
        simp (maxSteps := 2000000) -implicitDefEqProofs only [zz, ↓reduceIte, p0, p5]
        refine wdraw_weak (Weak.sealed (T' := [(2, .d (.imm (dCm c) 0)), (3, .d (.imm (dWl w) 0)), (4, .ptr 2 0 0), (5, .ptr 3 0 0)]) [0, 1] (by simp [tget, sealF, xport, xports, tids, tidss, hget, dCm, cmC, dWl])) [⟨[], false, [41], [], false⟩, ⟨[], false, [40, 41], [0], true⟩, ⟨[0], true, [41], [], false⟩, ⟨[0, 1, 2], true, [], [], false⟩, ⟨[0, 1, 2, 3], true, [], [], false⟩] (by decide) ?_
        simp only [sealH, AM.freeze, hput, hget, Blk.ice, List.map_cons, List.map_nil, sealB, sealF, List.mem_cons, List.mem_singleton, dCm, cmC, dWl]
        simp (maxSteps := 2000000) -implicitDefEqProofs only [zz, zE, evop, ev, ofVal, tget, tput, ok, V.isUndef, Ch.on, xport, xports, hget, hput, V.cells, D.cells, V.one, loadD, splice, resOf, resV, resVs, ↓reduceIte, Nat.reduceLT, Nat.reduceEqDiff, Nat.reduceAdd, Nat.reduceLeDiff]
  have hm2 := hm
  simp only [mayC, Bool.and_eq_true, decide_eq_true_eq] at hm2
  obtain ⟨⟨h0, g0⟩, g5⟩ := hm2
  have h0' := h0
  simp only [mayW, Bool.and_eq_true, Bool.not_eq_true'] at h0'
  have htb := h0'.1.1.2
  have hhp := h0'.1.1.1
  have p0 : ¬ (c.phase < 0) := by omega
  have p5 : ¬ (c.phase > 4) := by omega
  have herr := hc.err g0 g5
  have hst : cmStep c w = stpC c w := by unfold cmStep; rw [if_pos hm]
  have hout := fun e => c_r12_out c w e hl2
  have hlen := logR_len hc.log
  have hll := lastW_len c.t.log.1
  have hw1 : IntKind.i64.wrap (c.phase + 1) = c.phase + 1 := by rw [wrap_in (by omega)]
  rw [hst, hm]
  have hp : c.phase = 0 ∨ c.phase = 1 ∨ c.phase = 2 ∨ c.phase = 3 ∨ c.phase = 4 := by omega
  rcases hp with h | h | h | h | h
  · have hY := stp_0 (w := w) h
    have hcs := c_r12_cells c hc.log
    have hneg : (cellsC c).any negI = false := by
      rw [List.any_eq_false]
      intro n hn
      obtain ⟨x, hx, rfl⟩ := List.mem_map.1 hn
      have := logR_nonneg hc.log x (lastW_mem hx)
      simp [negI]; omega
    have hlk := c_r03_Lock w.tab c.t.who (cellsC c) htb hneg hc.who (by simp [cellsC]; omega)
    have e0 : (c.phase == 0) = true := by rw [h]; rfl
    generalize stpC c w = y at hY ⊢
    generalize lockR w.tab c.t.who (cellsC c) = z at hlk hY
    generalize cellsC c = cs at hcs hlk
    refine CSpec.of_awp envOf_ok hmix Tryz.func38 rfl (fun args w => Tryz.call38 args w) (by simp [Tryz.f38]) ?_
    simp only [Tryz.f38]
    simp (maxSteps := 2000000) -implicitDefEqProofs only [zz, zE, evop, ev, tget, V.isUndef, initT, V.cells, ↓reduceIte]
    unfold dCm cmC dWl
    unfold dWl at hr
    unfold dCm cmC at hcs
    simp (maxSteps := 2000000) -implicitDefEqProofs only [zz, zE, evop, ev, ofVal, tget, tput, ok, V.isUndef, Ch.on, calleeOf, withArgs, hget, hput, V.cells, ↓reduceIte, reduceCtorEq, Nat.reduceLT, Nat.reduceEqDiff, Nat.reduceAdd, Nat.reduceLeDiff]
    refine acall_flat' (hr) rfl ?_
    try simp (maxSteps := 2000000) -implicitDefEqProofs only [zz, zE, evop, ev, ofVal, tget, tput, ok, V.isUndef, intBin, guardOf, Ch.on, calleeOf, withArgs, told, hget, hput, V.cells, V.one, structAt, partsV, Blk.width, splice, ↓reduceIte, reduceCtorEq, Nat.reduceLT, Nat.reduceEqDiff, Nat.reduceAdd, Nat.reduceLeDiff, nilTest]
    simp (maxSteps := 2000000) -implicitDefEqProofs only [zz, ↓reduceIte, h0, p0, p5, hw1, e0]
    refine wdraw_weak (Weak.sealed (T' := [(2, .d (.imm (dCm c) 0)), (3, .d (.imm (dWl w) 0)), (4, .ptr 2 0 0), (5, .ptr 3 0 0), (6, .d (.bool false)), (8, .ptr 4 0 0)]) [0, 1] (by simp [tget, sealF, xport, xports, tids, tidss, hget, dCm, cmC, dWl])) [⟨[], false, [57, 58, 59, 60, 61], [], false⟩, ⟨[0], false, [57, 58, 59, 60, 61], [], false⟩, ⟨[], false, [55, 56, 60, 61], [0, 1], false⟩, ⟨[2], false, [55, 56, 60, 61], [0, 1], false⟩, ⟨[2, 3], false, [55, 56, 60, 61], [0, 1], false⟩, ⟨[], false, [55, 56, 57, 58, 59], [0, 1, 2, 3, 4], false⟩, ⟨[5], false, [55, 56, 57, 58, 59], [0, 1, 2, 3, 4], false⟩, ⟨[0, 1, 2, 3, 4, 5, 6], true, [], [], false⟩, ⟨[0, 1, 2, 3, 4, 5, 6, 7], true, [], [], false⟩, ⟨[0, 1, 2, 3, 4, 5, 6, 7, 8], false, [64], [], false⟩, ⟨[0, 1, 2, 3, 4, 5, 6, 7, 8], false, [9, 63], [9], false⟩, ⟨[0, 1, 2, 3, 4, 5, 6, 7, 8, 9], false, [64], [10], false⟩, ⟨[0, 1, 2, 3, 4, 5, 6, 7, 8, 9, 10, 11], true, [], [], false⟩] (by decide) ?_
    simp only [sealH, AM.freeze, hput, hget, Blk.ice, List.map_cons, List.map_nil, sealB, sealF, List.mem_cons, List.mem_singleton, dCm, cmC, dWl]
    simp (maxSteps := 2000000) -implicitDefEqProofs only [zz, zE, evop, ev, ofVal, tget, tput, ok, V.isUndef, calleeOf, withArgs, hput, D.cells, loadD, structAt, Blk.width, ↓reduceIte, reduceCtorEq, Nat.reduceLT, Nat.reduceEqDiff, Nat.reduceAdd, Nat.reduceLeDiff]
    refine dcall_still' (hcs) rfl ?_
    try simp (maxSteps := 2000000) -implicitDefEqProofs only [zz]
    refine acall_ice' (hlk) ?_
    try simp (maxSteps := 2000000) -implicitDefEqProofs only [zz, zE, evop, ev, ofVal, tget, tput, ok, V.isUndef, intBin, Ch.on, calleeOf, withArgs, told, tids, tidss, hput, freeze, D.cells, loadD, ↓reduceIte, Nat.reduceLT, Nat.reduceEqDiff, Nat.reduceAdd, Nat.reduceSub, Nat.reduceLeDiff, nilTest]
    by_cases hz : z.2 = 0
    · have e : (z.2 != 0) = false := by simpa using hz
      rw [if_neg (by simp [hz])] at hY
      subst hY
      simp (maxSteps := 2000000) -implicitDefEqProofs only [zz, ↓reduceIte, e]
      refine wdraw_weak (Weak.sealed (T' := [(8, .d (.imm (dCm ⟨c.t, c.phase + 1, c.version, 0⟩) 0)), (9, .d (.vec (z.1.map dW))), (3, .d (.imm (dWl w) 0)), (4, .ptr 2 0 0), (5, .ptr 3 0 0)]) [4] (by simp [tget, sealF, xport, xports, tids, tidss, hget, dCm, cmC, dWl])) [⟨[], false, [77, 78, 79, 80, 81, 82], [], false⟩, ⟨[], false, [76, 77, 78, 79, 80, 81, 82], [0], true⟩, ⟨[1], false, [76, 78, 79, 80, 81, 82], [0], true⟩, ⟨[], false, [76, 77, 78, 79, 80, 81, 82], [0, 1, 2], true⟩, ⟨[], false, [76, 77, 78, 79, 80, 81, 82], [0, 1, 2, 3], true⟩, ⟨[4], false, [76, 77, 78, 79, 81, 82], [0, 1, 2, 3], true⟩, ⟨[1, 2, 3, 4, 5], false, [76, 82], [0], true⟩, ⟨[0], true, [77, 78, 79, 80, 81, 82], [], false⟩, ⟨[0, 1, 2, 3, 4, 5, 6, 7], true, [], [], false⟩, ⟨[0, 1, 2, 3, 4, 5, 6, 7, 8], true, [], [], false⟩] (by decide) ?_
      simp only [sealH, AM.freeze, hput, hget, Blk.ice, List.map_cons, List.map_nil, sealB, sealF, List.mem_cons, List.mem_singleton, dCm, cmC, dWl]
      simp (maxSteps := 2000000) -implicitDefEqProofs only [zz, zE, evop, ev, ofVal, tget, tput, ok, V.isUndef, Ch.on, xport, xports, hget, hput, V.cells, D.cells, V.one, loadD, structAt, partsV, splice, resOf, resV, resVs, ↓reduceIte, reduceCtorEq, Nat.reduceLT, Nat.reduceEqDiff, Nat.reduceAdd, Nat.reduceLeDiff, herr]
    · have e : (z.2 != 0) = true := by simpa using hz
      have ho := hout z.2
      rw [if_pos hz] at hY
      rw [← hY] at ho
      unfold dCm cmC dWl at ho
      simp (maxSteps := 2000000) -implicitDefEqProofs only [↓reduceIte, e]
      refine acall_ice' (ho) ?_
      try simp (maxSteps := 2000000) -implicitDefEqProofs only [zz, zE, evop, ev, tget, tput, ok, V.isUndef, Ch.on, tids, tidss, hget, hput, freeze, V.cells, V.one, splice, ↓reduceIte, Nat.reduceLT, Nat.reduceEqDiff, Nat.reduceAdd, Nat.reduceLeDiff]
      refine wdraw_weak (Weak.sealed (T' := [(11, .d (.imm (dCm y.1) 0)), (12, .d (.imm (dWl y.2) 0)), (4, .ptr 2 0 0), (5, .ptr 3 0 0)]) [15, 16] (by simp [tget, sealF, xport, xports, tids, tidss, hget, dCm, cmC, dWl])) [⟨[], false, [75], [], false⟩, ⟨[], false, [74, 75], [0], true⟩, ⟨[0], true, [75], [], false⟩, ⟨[0, 1, 2], true, [], [], false⟩, ⟨[0, 1, 2, 3], true, [], [], false⟩] (by decide) ?_
      simp only [sealH, AM.freeze, hput, hget, Blk.ice, List.map_cons, List.map_nil, sealB, sealF, List.mem_cons, List.mem_singleton, dCm, cmC, dWl]
      simp (maxSteps := 2000000) -implicitDefEqProofs only [zz, zE, evop, ev, ofVal, tget, tput, ok, V.isUndef, Ch.on, xport, xports, hget, hput, V.cells, D.cells, V.one, loadD, splice, resOf, resV, resVs, ↓reduceIte, Nat.reduceLT, Nat.reduceEqDiff, Nat.reduceAdd, Nat.reduceLeDiff]
  · have hY := stp_1 h h0
    have htk := h0'.1.2
    simp only [tickR, Bool.and_eq_true, decide_eq_true_eq] at htk
    have e0 : (c.phase == 0) = false := by rw [h]; rfl
    have e1 : (c.phase == 1) = true := by rw [h]; rfl
    generalize stpC c w = y at hY ⊢
    refine CSpec.of_awp envOf_ok hmix Tryz.func38 rfl (fun args w => Tryz.call38 args w) (by simp [Tryz.f38]) ?_
    simp only [Tryz.f38]
    simp (maxSteps := 2000000) -implicitDefEqProofs only [zz, zE, evop, ev, tget, V.isUndef, initT, V.cells, ↓reduceIte]
    unfold dCm cmC dWl
    unfold dWl at hr
    simp (maxSteps := 2000000) -implicitDefEqProofs only [zz, zE, evop, ev, ofVal, tget, tput, ok, V.isUndef, Ch.on, calleeOf, withArgs, hget, hput, V.cells, ↓reduceIte, reduceCtorEq, Nat.reduceLT, Nat.reduceEqDiff, Nat.reduceAdd, Nat.reduceLeDiff]
    refine acall_flat' (hr) rfl ?_
    try simp (maxSteps := 2000000) -implicitDefEqProofs only [zz, zE, evop, ev, ofVal, tget, tput, ok, V.isUndef, intBin, guardOf, Ch.on, calleeOf, withArgs, told, hget, hput, V.cells, V.one, structAt, partsV, Blk.width, splice, ↓reduceIte, reduceCtorEq, Nat.reduceLT, Nat.reduceEqDiff, Nat.reduceAdd, Nat.reduceLeDiff, nilTest]
    by_cases hz : w.clock = 2147483647
    · have e : (w.clock == 2147483647) = true := by simpa using hz
      have ho := hout 6
      rw [if_pos hz] at hY
      rw [← hY] at ho
      unfold dCm cmC dWl at ho
      simp (maxSteps := 2000000) -implicitDefEqProofs only [zz, ↓reduceIte, h0, p0, p5, hw1, e0, e1, e]
      refine acall_ice' (ho) ?_
      try simp (maxSteps := 2000000) -implicitDefEqProofs only [zz, zE, evop, ev, tget, tput, ok, V.isUndef, Ch.on, tids, tidss, hget, hput, freeze, V.cells, V.one, splice, ↓reduceIte, Nat.reduceLT, Nat.reduceEqDiff, Nat.reduceAdd, Nat.reduceLeDiff]
      refine wdraw_weak (Weak.sealed (T' := [(13, .d (.imm (dCm y.1) 0)), (14, .d (.imm (dWl y.2) 0)), (4, .ptr 2 0 0), (5, .ptr 3 0 0)]) [5, 6] (by simp [tget, sealF, xport, xports, tids, tidss, hget, dCm, cmC, dWl])) [⟨[], false, [95], [], false⟩, ⟨[], false, [94, 95], [0], true⟩, ⟨[0], true, [95], [], false⟩, ⟨[0, 1, 2], true, [], [], false⟩, ⟨[0, 1, 2, 3], true, [], [], false⟩] (by decide) ?_
      simp only [sealH, AM.freeze, hput, hget, Blk.ice, List.map_cons, List.map_nil, sealB, sealF, List.mem_cons, List.mem_singleton, dCm, cmC, dWl]
      simp (maxSteps := 2000000) -implicitDefEqProofs only [zz, zE, evop, ev, ofVal, tget, tput, ok, V.isUndef, Ch.on, xport, xports, hget, hput, V.cells, D.cells, V.one, loadD, splice, resOf, resV, resVs, ↓reduceIte, Nat.reduceLT, Nat.reduceEqDiff, Nat.reduceAdd, Nat.reduceLeDiff]
    · have e : (w.clock == 2147483647) = false := by simpa using hz
      have hw2 : IntKind.i64.wrap (w.clock + 1) = w.clock + 1 := by rw [wrap_in (by omega)]
      rw [if_neg hz] at hY
      subst hY
      simp (maxSteps := 2000000) -implicitDefEqProofs only [zz, ↓reduceIte, h0, p0, p5, hw1, e0, e1, e, hw2]
      refine wdraw_weak (Weak.sealed (T' := [(8, .d (.imm (dCm ⟨c.t, c.phase + 1, w.clock + 1, 0⟩) 0)), (3, .d (.imm (dWl w) 0)), (4, .ptr 2 0 0), (5, .ptr 3 0 0)]) [1, 4] (by simp [tget, sealF, xport, xports, tids, tidss, hget, dCm, cmC, dWl])) [⟨[], false, [101, 102, 103, 104, 105, 106, 107, 108], [], false⟩, ⟨[], false, [100, 101, 102, 103, 104, 105, 106, 107, 108], [0], true⟩, ⟨[1], false, [100, 102, 103, 104, 105, 106, 107, 108], [0], true⟩, ⟨[], false, [100, 101, 102, 103, 104, 105, 106, 107, 108], [0, 1, 2], true⟩, ⟨[3], false, [100, 101, 102, 104, 105, 106, 107, 108], [0, 1, 2], true⟩, ⟨[], false, [100, 101, 102, 103, 104, 105, 106, 107, 108], [0, 1, 2, 3, 4], true⟩, ⟨[5], false, [100, 101, 102, 103, 104, 106, 107, 108], [0, 1, 2, 3, 4], true⟩, ⟨[5, 6], false, [100, 101, 102, 103, 104, 107, 108], [0, 1, 2, 3, 4], true⟩, ⟨[1, 2, 3, 4, 5, 6, 7], false, [100, 108], [0], true⟩, ⟨[0], true, [101, 102, 103, 104, 105, 106, 107, 108], [], false⟩, ⟨[0, 1, 2, 3, 4, 5, 6, 7, 8, 9], true, [], [], false⟩, ⟨[0, 1, 2, 3, 4, 5, 6, 7, 8, 9, 10], true, [], [], false⟩] (by decide) ?_
      simp only [sealH, AM.freeze, hput, hget, Blk.ice, List.map_cons, List.map_nil, sealB, sealF, List.mem_cons, List.mem_singleton, dCm, cmC, dWl]
      simp (maxSteps := 2000000) -implicitDefEqProofs only [zz, zE, evop, ev, ofVal, tget, tput, ok, V.isUndef, intBin, Ch.on, xport, xports, hget, hput, V.cells, D.cells, V.isAgg, V.one, loadD, structAt, partsV, splice, resOf, resV, resVs, ↓reduceIte, reduceCtorEq, Nat.reduceLT, Nat.reduceEqDiff, Nat.reduceAdd, Nat.reduceLeDiff, herr, hw2]
  · have hY := stp_2 (w := w) h
    have hv := c_r05_Valid c.t.reads w.tab c.t.who hc.rds htb hc.who
    have e0 : (c.phase == 0) = false := by rw [h]; rfl
    have e1 : (c.phase == 1) = false := by rw [h]; rfl
    have e2 : (c.phase == 2) = true := by rw [h]; rfl
    generalize stpC c w = y at hY ⊢
    generalize validR c.t.reads w.tab c.t.who = z at hv hY
    refine CSpec.of_awp envOf_ok hmix Tryz.func38 rfl (fun args w => Tryz.call38 args w) (by simp [Tryz.f38]) ?_
    simp only [Tryz.f38]
    simp (maxSteps := 2000000) -implicitDefEqProofs only [zz, zE, evop, ev, tget, V.isUndef, initT, V.cells, ↓reduceIte]
    unfold dCm cmC dWl
    unfold dWl at hr
    simp (maxSteps := 2000000) -implicitDefEqProofs only [zz, zE, evop, ev, ofVal, tget, tput, ok, V.isUndef, Ch.on, calleeOf, withArgs, hget, hput, V.cells, ↓reduceIte, reduceCtorEq, Nat.reduceLT, Nat.reduceEqDiff, Nat.reduceAdd, Nat.reduceLeDiff]
    refine acall_flat' (hr) rfl ?_
    try simp (maxSteps := 2000000) -implicitDefEqProofs only [zz, zE, evop, ev, ofVal, tget, tput, ok, V.isUndef, intBin, guardOf, Ch.on, calleeOf, withArgs, told, hget, hput, V.cells, V.one, structAt, partsV, Blk.width, splice, ↓reduceIte, reduceCtorEq, Nat.reduceLT, Nat.reduceEqDiff, Nat.reduceAdd, Nat.reduceLeDiff, nilTest]
    simp (maxSteps := 2000000) -implicitDefEqProofs only [zz, ↓reduceIte, h0, p0, p5, hw1, e0, e1, e2]
    refine acall_flat' (hv) rfl ?_
    try simp (maxSteps := 2000000) -implicitDefEqProofs only [zz, zE, evop, ev, ofVal, tget, tput, ok, V.isUndef, intBin, Ch.on, calleeOf, withArgs, told, hget, ↓reduceIte, Nat.reduceLT, Nat.reduceEqDiff, Nat.reduceAdd, Nat.reduceLeDiff, nilTest]
    by_cases hz : z = 0
    · have e : (z != 0) = false := by simpa using hz
      rw [if_neg (by simp [hz])] at hY
      subst hY
      simp (maxSteps := 2000000) -implicitDefEqProofs only [zz, ↓reduceIte, e]
      refine wdraw_weak (Weak.sealed (T' := [(8, .d (.imm (dCm ⟨c.t, c.phase + 1, c.version, 0⟩) 0)), (3, .d (.imm (dWl w) 0)), (4, .ptr 2 0 0), (5, .ptr 3 0 0)]) [1, 4] (by simp [tget, sealF, xport, xports, tids, tidss, hget, dCm, cmC, dWl])) [⟨[], false, [132], [], false⟩, ⟨[], false, [131, 132], [0], true⟩, ⟨[0], true, [132], [], false⟩, ⟨[0, 1, 2], true, [], [], false⟩, ⟨[0, 1, 2, 3], true, [], [], false⟩] (by decide) ?_
      simp only [sealH, AM.freeze, hput, hget, Blk.ice, List.map_cons, List.map_nil, sealB, sealF, List.mem_cons, List.mem_singleton, dCm, cmC, dWl]
      simp (maxSteps := 2000000) -implicitDefEqProofs only [zz, zE, evop, ev, ofVal, tget, tput, ok, V.isUndef, Ch.on, xport, xports, hget, hput, V.cells, D.cells, V.one, loadD, splice, resOf, resV, resVs, ↓reduceIte, Nat.reduceLT, Nat.reduceEqDiff, Nat.reduceAdd, Nat.reduceLeDiff, herr]
    · have e : (z != 0) = true := by simpa using hz
      have ho := hout z
      rw [if_pos hz] at hY
      rw [← hY] at ho
      unfold dCm cmC dWl at ho
      simp (maxSteps := 2000000) -implicitDefEqProofs only [↓reduceIte, e]
      refine acall_ice' (ho) ?_
      try simp (maxSteps := 2000000) -implicitDefEqProofs only [zz, zE, evop, ev, tget, tput, ok, V.isUndef, Ch.on, tids, tidss, hget, hput, freeze, V.cells, V.one, splice, ↓reduceIte, Nat.reduceLT, Nat.reduceEqDiff, Nat.reduceAdd, Nat.reduceLeDiff]
      refine wdraw_weak (Weak.sealed (T' := [(16, .d (.imm (dCm y.1) 0)), (17, .d (.imm (dWl y.2) 0)), (4, .ptr 2 0 0), (5, .ptr 3 0 0)]) [5, 6] (by simp [tget, sealF, xport, xports, tids, tidss, hget, dCm, cmC, dWl])) [⟨[], false, [130], [], false⟩, ⟨[], false, [129, 130], [0], true⟩, ⟨[0], true, [130], [], false⟩, ⟨[0, 1, 2], true, [], [], false⟩, ⟨[0, 1, 2, 3], true, [], [], false⟩] (by decide) ?_
      simp only [sealH, AM.freeze, hput, hget, Blk.ice, List.map_cons, List.map_nil, sealB, sealF, List.mem_cons, List.mem_singleton, dCm, cmC, dWl]
      simp (maxSteps := 2000000) -implicitDefEqProofs only [zz, zE, evop, ev, ofVal, tget, tput, ok, V.isUndef, Ch.on, xport, xports, hget, hput, V.cells, D.cells, V.one, loadD, splice, resOf, resV, resVs, ↓reduceIte, Nat.reduceLT, Nat.reduceEqDiff, Nat.reduceAdd, Nat.reduceLeDiff]
  · have hY := stp_3 (w := w) h
    have h2 := c_r06_Last c.t.log (logR_nonneg hc.log) (by omega)
    have hpt := c_r02_Put w.heap (lastW c.t.log.1) hhp (last_span hc.log) (by omega)
    have e0 : (c.phase == 0) = false := by rw [h]; rfl
    have e1 : (c.phase == 1) = false := by rw [h]; rfl
    have e2 : (c.phase == 2) = false := by rw [h]; rfl
    have e3 : (c.phase == 3) = true := by rw [h]; rfl
    generalize stpC c w = y at hY ⊢
    generalize heapPut w.heap (lastW c.t.log.1) = z at hpt hY
    generalize lastW c.t.log.1 = L at h2 hpt
    refine CSpec.of_awp envOf_ok hmix Tryz.func38 rfl (fun args w => Tryz.call38 args w) (by simp [Tryz.f38]) ?_
    simp only [Tryz.f38]
    simp (maxSteps := 2000000) -implicitDefEqProofs only [zz, zE, evop, ev, tget, V.isUndef, initT, V.cells, ↓reduceIte]
    unfold dCm cmC dWl
    unfold dWl at hr
    simp (maxSteps := 2000000) -implicitDefEqProofs only [zz, zE, evop, ev, ofVal, tget, tput, ok, V.isUndef, Ch.on, calleeOf, withArgs, hget, hput, V.cells, ↓reduceIte, reduceCtorEq, Nat.reduceLT, Nat.reduceEqDiff, Nat.reduceAdd, Nat.reduceLeDiff]
    refine acall_flat' (hr) rfl ?_
    try simp (maxSteps := 2000000) -implicitDefEqProofs only [zz, zE, evop, ev, ofVal, tget, tput, ok, V.isUndef, intBin, guardOf, Ch.on, calleeOf, withArgs, told, hget, hput, V.cells, V.one, structAt, partsV, Blk.width, splice, ↓reduceIte, reduceCtorEq, Nat.reduceLT, Nat.reduceEqDiff, Nat.reduceAdd, Nat.reduceLeDiff, nilTest]
    simp (maxSteps := 2000000) -implicitDefEqProofs only [zz, ↓reduceIte, h0, p0, p5, hw1, e0, e1, e2, e3]
    refine wdraw_weak (Weak.sealed (T' := [(2, .d (.imm (dCm c) 0)), (3, .d (.imm (dWl w) 0)), (4, .ptr 2 0 0), (5, .ptr 3 0 0), (6, .d (.bool false)), (8, .ptr 4 0 0)]) [0, 1] (by simp [tget, sealF, xport, xports, tids, tidss, hget, dCm, cmC, dWl])) [⟨[], false, [138, 139, 140, 141], [], false⟩, ⟨[0], false, [138, 139, 140, 141], [], false⟩, ⟨[], false, [136, 137], [0, 1], false⟩, ⟨[2], false, [136, 137], [0, 1], false⟩, ⟨[2, 3], false, [136, 137], [0, 1], false⟩, ⟨[2, 3, 4], false, [136, 137], [0, 1], false⟩, ⟨[0, 1, 2, 3, 4, 5], true, [], [], false⟩, ⟨[0, 1, 2, 3, 4, 5, 6], true, [], [], false⟩, ⟨[0, 1, 2, 3, 4, 5, 6, 7], false, [144], [], false⟩, ⟨[0, 1, 2, 3, 4, 5, 6, 7], false, [18, 143], [8], false⟩, ⟨[0, 1, 2, 3, 4, 5, 6, 7, 8], false, [144], [9], false⟩, ⟨[0, 1, 2, 3, 4, 5, 6, 7, 8, 9, 10], true, [], [], false⟩] (by decide) ?_
    simp only [sealH, AM.freeze, hput, hget, Blk.ice, List.map_cons, List.map_nil, sealB, sealF, List.mem_cons, List.mem_singleton, dCm, cmC, dWl]
    simp (maxSteps := 2000000) -implicitDefEqProofs only [zz, zE, evop, ev, ofVal, tget, tput, ok, V.isUndef, calleeOf, withArgs, hput, D.cells, loadD, structAt, Blk.width, ↓reduceIte, reduceCtorEq, Nat.reduceLT, Nat.reduceEqDiff, Nat.reduceAdd, Nat.reduceLeDiff]
    refine dcall_still' (h2) rfl ?_
    try simp (maxSteps := 2000000) -implicitDefEqProofs only [zz]
    refine acall_ice' (hpt) ?_
    try simp (maxSteps := 2000000) -implicitDefEqProofs only [zz, zE, evop, ev, ofVal, tget, tput, ok, V.isUndef, intBin, Ch.on, calleeOf, withArgs, told, tids, tidss, hput, freeze, D.cells, loadD, ↓reduceIte, Nat.reduceLT, Nat.reduceEqDiff, Nat.reduceAdd, Nat.reduceSub, Nat.reduceLeDiff, nilTest]
    by_cases hz : z.2 = 0
    · have e : (z.2 != 0) = false := by simpa using hz
      rw [if_neg (by simp [hz])] at hY
      subst hY
      simp (maxSteps := 2000000) -implicitDefEqProofs only [zz, ↓reduceIte, e]
      refine wdraw_weak (Weak.sealed (T' := [(8, .d (.imm (dCm ⟨c.t, c.phase + 1, c.version, 0⟩) 0)), (18, .d (.vec (z.1.map dC))), (3, .d (.imm (dWl w) 0)), (4, .ptr 2 0 0), (5, .ptr 3 0 0)]) [4] (by simp [tget, sealF, xport, xports, tids, tidss, hget, dCm, cmC, dWl])) [⟨[], false, [157, 158, 159, 160, 161, 162], [], false⟩, ⟨[], false, [156, 157, 158, 159, 160, 161, 162], [0], true⟩, ⟨[], false, [156, 157, 158, 159, 160, 161, 162], [0, 1], true⟩, ⟨[2], false, [156, 157, 159, 160, 161, 162], [0, 1], true⟩, ⟨[], false, [156, 157, 158, 159, 160, 161, 162], [0, 1, 2, 3], true⟩, ⟨[4], false, [156, 157, 158, 159, 161, 162], [0, 1, 2, 3], true⟩, ⟨[1, 2, 3, 4, 5], false, [156, 162], [0], true⟩, ⟨[0], true, [157, 158, 159, 160, 161, 162], [], false⟩, ⟨[0, 1, 2, 3, 4, 5, 6, 7], true, [], [], false⟩, ⟨[0, 1, 2, 3, 4, 5, 6, 7, 8], true, [], [], false⟩] (by decide) ?_
      simp only [sealH, AM.freeze, hput, hget, Blk.ice, List.map_cons, List.map_nil, sealB, sealF, List.mem_cons, List.mem_singleton, dCm, cmC, dWl]
      simp (maxSteps := 2000000) -implicitDefEqProofs only [zz, zE, evop, ev, ofVal, tget, tput, ok, V.isUndef, Ch.on, xport, xports, hget, hput, V.cells, D.cells, V.one, loadD, structAt, partsV, splice, resOf, resV, resVs, ↓reduceIte, reduceCtorEq, Nat.reduceLT, Nat.reduceEqDiff, Nat.reduceAdd, Nat.reduceLeDiff, herr]
    · have e : (z.2 != 0) = true := by simpa using hz
      have ho := hout z.2
      rw [if_pos hz] at hY
      rw [← hY] at ho
      unfold dCm cmC dWl at ho
      simp (maxSteps := 2000000) -implicitDefEqProofs only [↓reduceIte, e]
      refine acall_ice' (ho) ?_
      try simp (maxSteps := 2000000) -implicitDefEqProofs only [zz, zE, evop, ev, tget, tput, ok, V.isUndef, Ch.on, tids, tidss, hget, hput, freeze, V.cells, V.one, splice, ↓reduceIte, Nat.reduceLT, Nat.reduceEqDiff, Nat.reduceAdd, Nat.reduceLeDiff]
      refine wdraw_weak (Weak.sealed (T' := [(20, .d (.imm (dCm y.1) 0)), (21, .d (.imm (dWl y.2) 0)), (4, .ptr 2 0 0), (5, .ptr 3 0 0)]) [14, 15] (by simp [tget, sealF, xport, xports, tids, tidss, hget, dCm, cmC, dWl])) [⟨[], false, [155], [], false⟩, ⟨[], false, [154, 155], [0], true⟩, ⟨[0], true, [155], [], false⟩, ⟨[0, 1, 2], true, [], [], false⟩, ⟨[0, 1, 2, 3], true, [], [], false⟩] (by decide) ?_
      simp only [sealH, AM.freeze, hput, hget, Blk.ice, List.map_cons, List.map_nil, sealB, sealF, List.mem_cons, List.mem_singleton, dCm, cmC, dWl]
      simp (maxSteps := 2000000) -implicitDefEqProofs only [zz, zE, evop, ev, ofVal, tget, tput, ok, V.isUndef, Ch.on, xport, xports, hget, hput, V.cells, D.cells, V.one, loadD, splice, resOf, resV, resVs, ↓reduceIte, Nat.reduceLT, Nat.reduceEqDiff, Nat.reduceAdd, Nat.reduceLeDiff]
  · have hY := stp_4 (w := w) h
    have hs := c_r03_Stamp w.tab c.t.who c.version htb hc.who
    have e0 : (c.phase == 0) = false := by rw [h]; rfl
    have e1 : (c.phase == 1) = false := by rw [h]; rfl
    have e2 : (c.phase == 2) = false := by rw [h]; rfl
    have e3 : (c.phase == 3) = false := by rw [h]; rfl
    generalize stpC c w = y at hY ⊢
    generalize stampR w.tab c.t.who c.version = z at hs hY
    refine CSpec.of_awp envOf_ok hmix Tryz.func38 rfl (fun args w => Tryz.call38 args w) (by simp [Tryz.f38]) ?_
    simp only [Tryz.f38]
    simp (maxSteps := 2000000) -implicitDefEqProofs only [zz, zE, evop, ev, tget, V.isUndef, initT, V.cells, ↓reduceIte]
    unfold dCm cmC dWl
    unfold dWl at hr
    simp (maxSteps := 2000000) -implicitDefEqProofs only [zz, zE, evop, ev, ofVal, tget, tput, ok, V.isUndef, Ch.on, calleeOf, withArgs, hget, hput, V.cells, ↓reduceIte, reduceCtorEq, Nat.reduceLT, Nat.reduceEqDiff, Nat.reduceAdd, Nat.reduceLeDiff]
    refine acall_flat' (hr) rfl ?_
    try simp (maxSteps := 2000000) -implicitDefEqProofs only [zz, zE, evop, ev, ofVal, tget, tput, ok, V.isUndef, intBin, guardOf, Ch.on, calleeOf, withArgs, told, hget, hput, V.cells, V.one, structAt, partsV, Blk.width, splice, ↓reduceIte, reduceCtorEq, Nat.reduceLT, Nat.reduceEqDiff, Nat.reduceAdd, Nat.reduceLeDiff, nilTest]
    simp (maxSteps := 2000000) -implicitDefEqProofs only [zz, ↓reduceIte, h0, p0, p5, hw1, e0, e1, e2, e3]
    refine acall_ice' (hs) ?_
    try simp (maxSteps := 2000000) -implicitDefEqProofs only [zz, zE, evop, ev, ofVal, tget, tput, ok, V.isUndef, intBin, Ch.on, calleeOf, withArgs, told, tids, tidss, hget, freeze, ↓reduceIte, Nat.reduceLT, Nat.reduceEqDiff, Nat.reduceAdd, Nat.reduceLeDiff, nilTest]
    by_cases hz : z.2 = 0
    · have e : (z.2 != 0) = false := by simpa using hz
      rw [if_neg (by simp [hz])] at hY
      subst hY
      simp (maxSteps := 2000000) -implicitDefEqProofs only [zz, ↓reduceIte, e]
      refine wdraw_weak (Weak.sealed (T' := [(8, .d (.imm (dCm ⟨c.t, c.phase + 1, c.version, 0⟩) 0)), (22, .d (.vec (z.1.map dW))), (3, .d (.imm (dWl w) 0)), (4, .ptr 2 0 0), (5, .ptr 3 0 0)]) [1, 4] (by simp [tget, sealF, xport, xports, tids, tidss, hget, dCm, cmC, dWl])) [⟨[], false, [186, 187, 188, 189, 190, 191], [], false⟩, ⟨[], false, [185, 186, 187, 188, 189, 190, 191], [0], true⟩, ⟨[1], false, [185, 187, 188, 189, 190, 191], [0], true⟩, ⟨[], false, [185, 186, 187, 188, 189, 190, 191], [0, 1, 2], true⟩, ⟨[], false, [185, 186, 187, 188, 189, 190, 191], [0, 1, 2, 3], true⟩, ⟨[4], false, [185, 186, 187, 188, 190, 191], [0, 1, 2, 3], true⟩, ⟨[1, 2, 3, 4, 5], false, [185, 191], [0], true⟩, ⟨[0], true, [186, 187, 188, 189, 190, 191], [], false⟩, ⟨[0, 1, 2, 3, 4, 5, 6, 7], true, [], [], false⟩, ⟨[0, 1, 2, 3, 4, 5, 6, 7, 8], true, [], [], false⟩] (by decide) ?_
      simp only [sealH, AM.freeze, hput, hget, Blk.ice, List.map_cons, List.map_nil, sealB, sealF, List.mem_cons, List.mem_singleton, dCm, cmC, dWl]
      simp (maxSteps := 2000000) -implicitDefEqProofs only [zz, zE, evop, ev, ofVal, tget, tput, ok, V.isUndef, Ch.on, xport, xports, hget, hput, V.cells, D.cells, V.one, loadD, structAt, partsV, splice, resOf, resV, resVs, ↓reduceIte, reduceCtorEq, Nat.reduceLT, Nat.reduceEqDiff, Nat.reduceAdd, Nat.reduceLeDiff, herr]
    · have e : (z.2 != 0) = true := by simpa using hz
      have ho := hout z.2
      rw [if_pos hz] at hY
      rw [← hY] at ho
      unfold dCm cmC dWl at ho
      simp (maxSteps := 2000000) -implicitDefEqProofs only [↓reduceIte, e]
      refine acall_ice' (ho) ?_
      try simp (maxSteps := 2000000) -implicitDefEqProofs only [zz, zE, evop, ev, tget, tput, ok, V.isUndef, Ch.on, tids, tidss, hget, hput, freeze, V.cells, V.one, splice, ↓reduceIte, Nat.reduceLT, Nat.reduceEqDiff, Nat.reduceAdd, Nat.reduceLeDiff]
      refine wdraw_weak (Weak.sealed (T' := [(24, .d (.imm (dCm y.1) 0)), (25, .d (.imm (dWl y.2) 0)), (4, .ptr 2 0 0), (5, .ptr 3 0 0)]) [5, 6] (by simp [tget, sealF, xport, xports, tids, tidss, hget, dCm, cmC, dWl])) [⟨[], false, [184], [], false⟩, ⟨[], false, [183, 184], [0], true⟩, ⟨[0], true, [184], [], false⟩, ⟨[0, 1, 2], true, [], [], false⟩, ⟨[0, 1, 2, 3], true, [], [], false⟩] (by decide) ?_
      simp only [sealH, AM.freeze, hput, hget, Blk.ice, List.map_cons, List.map_nil, sealB, sealF, List.mem_cons, List.mem_singleton, dCm, cmC, dWl]
      simp (maxSteps := 2000000) -implicitDefEqProofs only [zz, zE, evop, ev, ofVal, tget, tput, ok, V.isUndef, Ch.on, xport, xports, hget, hput, V.cells, D.cells, V.one, loadD, splice, resOf, resV, resVs, ↓reduceIte, Nat.reduceLT, Nat.reduceEqDiff, Nat.reduceAdd, Nat.reduceLeDiff]
end Go.Proofs.YtjhfpabldidlgaaGreat.AM

set_option linter.all false
set_option maxRecDepth 100000
set_option maxHeartbeats 8000000
namespace Go.Proofs.YtjhfpabldidlgaaGreat.AM
open Go Go.RowKit

theorem r_x_load (t : Ty) (h : List (Bool × Int)) (r : List (Int × Int)) (x : St) (hl : h.length ≤ 1000000) (htb : tableR r = true) (hreg : t.regs.length = 8) (ha : 0 ≤ x.a ∧ x.a < 8) (hpc : 0 ≤ t.pc ∧ t.pc ≤ 1000000)
    (hrd : readsR t.reads = true) (hrl : t.reads.length < 24) :
    RSpec Tryz.prog 113 [.ptr 0 0 0, .d (dS x)] [bX t h r] (.tuple []) [bX (loadT t x h r) h r] := by
  refine RSpec.of_awp envOf_ok hmix Tryz.func113 rfl (fun args w => Tryz.call113 args w) (by simp [Tryz.f113]) ?_
  simp only [Tryz.f113]
  simp (maxSteps := 2000000) -implicitDefEqProofs only [zz, zE, evop, ev, tget, tput, V.isUndef, Ch.on, hput, V.cells, ↓reduceIte, reduceCtorEq, Nat.reduceLT, initV, dS]
  unfold bX
  refine wdraw_plan [⟨[], false, [16, 17], [], false⟩, ⟨[0], false, [16, 17], [], false⟩, ⟨[0, 1], false, [16, 17], [], false⟩, ⟨[0, 1, 2], false, [16, 17], [], false⟩, ⟨[], false, [12, 13, 14, 15], [0, 1, 2, 3], false⟩, ⟨[4], false, [12, 13, 14, 15], [0, 1, 2, 3], false⟩, ⟨[0, 1, 2, 3, 4, 5], true, [], [], false⟩, ⟨[0, 1, 2, 3, 4, 5, 6], true, [], [], false⟩, ⟨[0, 1, 2, 3, 4, 5, 6, 7], false, [20], [], false⟩, ⟨[0, 1, 2, 3, 4, 5, 6, 7], false, [4, 19], [8], false⟩, ⟨[0, 1, 2, 3, 4, 5, 6, 7, 8], false, [20], [9], false⟩, ⟨[0, 1, 2, 3, 4, 5, 6, 7, 8, 9, 10], true, [], [], false⟩] (by decide) ?_
  simp (maxSteps := 2000000) -implicitDefEqProofs only [zz, zE, evop, ev, ofVal, tget, tput, ok, V.isUndef, calleeOf, withArgs, hget, hput, D.cells, loadD, structAt, isPtr, Blk.width, ↓reduceIte, reduceCtorEq, Nat.reduceLT, Nat.reduceEqDiff, Nat.reduceAdd, Nat.reduceLeDiff]
  refine acall_flat' (c_heap_Get h x.b hl) rfl ?_
  try simp (maxSteps := 2000000) -implicitDefEqProofs only [zz, zE, evop, ev, ofVal, tget, tput, ok, V.isUndef, intBin, Ch.on, calleeOf, withArgs, told, hget, hput, structAt, Blk.width, ↓reduceIte, reduceCtorEq, Nat.reduceLT, Nat.reduceEqDiff, Nat.reduceAdd, Nat.reduceSub, Nat.reduceLeDiff, nilTest]
  by_cases h0 : (heapGet h x.b).2 = 0
  case neg =>
    have e : ((heapGet h x.b).2 != 0) = true := by simpa using h0
    have hst : loadT t x h r = endT t 4 x.b := by unfold loadT; rw [if_pos h0]
    rw [hst]
    have hr := r_x_end t h r 4 x.b
    unfold bX at hr
    simp (maxSteps := 2000000) -implicitDefEqProofs only [↓reduceIte, e]
    refine acall_ref [0] (hr) (by first | rfl | simp [renL, V.ren, frρ, renL_ds]) (by simp) rfl (by simp) (by simp) (by intro j hj; match j, hj with | 0, _ => exact ⟨by simp [hget], rfl⟩) ?_
    try simp (maxSteps := 2000000) -implicitDefEqProofs only [zz, tput, hput, resOf, resVs, ↓reduceIte, Nat.reduceLT, Nat.reduceAdd, Blk.ren, V.ren, renL, frameH, putL]
    exact Weak.trimsM 1 (by simp) rfl (by simp [tget, V.lower, lowerL]) (by simp [Blk.lower, lowerL, V.lower])
  have e : ((heapGet h x.b).2 != 0) = false := by simpa using h0
  have hn := not_not_intro h0
  simp (maxSteps := 2000000) -implicitDefEqProofs only [zz, ↓reduceIte, e]
  refine wdraw_plan [⟨[], false, [33, 34], [], false⟩, ⟨[0], false, [33, 34], [], false⟩, ⟨[0, 1], false, [33, 34], [], false⟩, ⟨[0, 1, 2], false, [33, 34], [], false⟩, ⟨[0, 1, 2, 3], false, [33, 34], [], false⟩, ⟨[], false, [28, 29, 30, 31, 32], [0, 1, 2, 3, 4], false⟩, ⟨[5], false, [28, 29, 30, 31, 32], [0, 1, 2, 3, 4], false⟩, ⟨[0, 1, 2, 3, 4, 5, 6], true, [], [], false⟩, ⟨[0, 1, 2, 3, 4, 5, 6, 7], true, [], [], false⟩, ⟨[0, 1, 2, 3, 4, 5, 6, 7, 8], false, [37], [], false⟩, ⟨[0, 1, 2, 3, 4, 5, 6, 7, 8], false, [6, 36], [9], false⟩, ⟨[0, 1, 2, 3, 4, 5, 6, 7, 8, 9], false, [37], [10], false⟩, ⟨[0, 1, 2, 3, 4, 5, 6, 7, 8, 9, 10, 11], true, [], [], false⟩] (by decide) ?_
  simp (maxSteps := 2000000) -implicitDefEqProofs only [zz, zE, evop, ev, ofVal, tget, tput, ok, V.isUndef, calleeOf, withArgs, hget, hput, D.cells, loadD, structAt, isPtr, Blk.width, ↓reduceIte, reduceCtorEq, Nat.reduceLT, Nat.reduceEqDiff, Nat.reduceAdd, Nat.reduceLeDiff]
  have hg := c_Get t.log x.b
  refine acall_flat' (hg) rfl ?_
  try simp (maxSteps := 2000000) -implicitDefEqProofs only [zz, zE, evop, ev, tget, tput, ok, V.isUndef, Ch.on, calleeOf, withArgs, told, hget, hput, structAt, Blk.width, ↓reduceIte, reduceCtorEq, Nat.reduceLT, Nat.reduceEqDiff, Nat.reduceAdd, Nat.reduceSub, Nat.reduceLeDiff]
  cases hg2 : (getL t.log x.b).2 with
  | true =>
    have g2 : (logR t.log && (getW t.log.1 x.b).2) = true := hg2
    have hst : loadT t x h r = putT t x.a (getL t.log x.b).1 := by unfold loadT; rw [if_neg hn, if_pos hg2]
    rw [hst]
    have hr := r_x_put t h r x.a (getL t.log x.b).1 hreg ha hpc
    unfold bX getL at hr
    simp (maxSteps := 2000000) -implicitDefEqProofs only [↓reduceIte, g2]
    refine acall_ref [0] (hr) (by first | rfl | simp [renL, V.ren, frρ, renL_ds]) (by simp) rfl (by simp) (by simp) (by intro j hj; match j, hj with | 0, _ => exact ⟨by simp [hget], rfl⟩) ?_
    try simp (maxSteps := 2000000) -implicitDefEqProofs only [zz, tput, hput, resOf, resVs, ↓reduceIte, Nat.reduceLT, Nat.reduceAdd, Blk.ren, V.ren, renL, frameH, putL]
    exact Weak.trimsM 1 (by simp) rfl (by simp [tget, V.lower, lowerL]) (by simp [Blk.lower, lowerL, V.lower])
  | false =>
    have g2 : (logR t.log && (getW t.log.1 x.b).2) = false := hg2
    have hng : ¬ (getL t.log x.b).2 = true := by rw [hg2]; decide
    simp (maxSteps := 2000000) -implicitDefEqProofs only [zz, ↓reduceIte, g2]
    refine wdraw_plan [⟨[], false, [8, 50, 51], [], false⟩, ⟨[0], false, [8, 50, 51], [], false⟩, ⟨[0, 1], false, [8, 50, 51], [], false⟩, ⟨[0, 1, 2], false, [8, 50, 51], [], false⟩, ⟨[0, 1, 2, 3], false, [8, 50, 51], [], false⟩, ⟨[], false, [8, 45, 46, 47, 48, 49], [0, 1, 2, 3, 4], false⟩, ⟨[5], false, [8, 45, 46, 47, 48, 49], [0, 1, 2, 3, 4], false⟩, ⟨[0, 1, 2, 3, 4, 5, 6], false, [8], [], false⟩, ⟨[0, 1, 2, 3, 4, 5, 6, 7], false, [8], [], false⟩, ⟨[0, 1, 2, 3, 4, 5, 6, 7, 8], false, [8, 54], [], false⟩, ⟨[0, 1, 2, 3, 4, 5, 6, 7, 8], false, [8, 53, 54], [9], true⟩, ⟨[], false, [44, 45, 46, 47, 48, 49, 50, 51, 52, 53, 54], [0, 1, 2, 3, 4, 5, 6, 7, 8, 9, 10], false⟩, ⟨[0, 1, 2, 3, 4, 5, 6, 7, 8, 9, 11], true, [54], [], false⟩, ⟨[0, 1, 2, 3, 4, 5, 6, 7, 8, 9, 10, 11, 12], true, [], [], false⟩] (by decide) ?_
    simp (maxSteps := 2000000) -implicitDefEqProofs only [zz, zE, evop, ev, ofVal, tget, tput, ok, V.isUndef, calleeOf, withArgs, hget, hput, V.cells, D.cells, loadD, structAt, isPtr, Blk.width, splice, D.over, ↓reduceIte, reduceCtorEq, Nat.reduceLT, Nat.reduceEqDiff, Nat.reduceAdd, Nat.reduceLeDiff]
    have hf := c_reads_Find t.reads x.b (by omega)
    cases hfd : t.reads.find? (fun y => y.1 == x.b) with
    | some y =>
      have hfr : findR t.reads x.b = (y, true) := by unfold findR; rw [if_pos hrd, hfd]
      rw [hfr] at hf
      have hst : loadT t x h r = putT t x.a y.2.2 := by unfold loadT; rw [if_neg hn, if_neg hng, hfd]
      rw [hst]
      have hr := r_x_put t h r x.a y.2.2 hreg ha hpc
      unfold bX at hr
      refine dcall_still' (hf) rfl ?_
      try simp (maxSteps := 2000000) -implicitDefEqProofs only [zz, zE, evop, ev, tget, tput, ok, V.isUndef, Ch.on, calleeOf, withArgs, told, hget, hput, V.one, structAt, Blk.width, ↓reduceIte, reduceCtorEq, Nat.reduceLT, Nat.reduceEqDiff, Nat.reduceAdd, dRd]
      refine acall_ref [0] (hr) (by first | rfl | simp [renL, V.ren, frρ, renL_ds]) (by simp) rfl (by simp) (by simp) (by intro j hj; match j, hj with | 0, _ => exact ⟨by simp [hget], rfl⟩) ?_
      try simp (maxSteps := 2000000) -implicitDefEqProofs only [zz, tput, hput, resOf, resVs, ↓reduceIte, Nat.reduceLT, Nat.reduceAdd, Blk.ren, V.ren, renL, frameH, putL]
      exact Weak.trimsM 1 (by simp) rfl (by simp [tget, V.lower, lowerL]) (by simp [Blk.lower, lowerL, V.lower])
    | none =>
      have hfr : findR t.reads x.b = ((0, 0, 0), false) := by unfold findR; rw [if_pos hrd, hfd]
      rw [hfr] at hf
      obtain ⟨z1, z2, z3, z4, z5⟩ := heapGet_0 h0
      obtain ⟨y1, y2, y3, y4, y5, y6, y7⟩ := recR_in htb z4
      have hrx : r[(x.b.tmod r.length).toNat]? = some (recR r x.b) := by
        unfold recR
        rw [List.getElem?_eq_getElem (by omega)]
        rfl
      have hrne : (r.length : Int) ≠ 0 := by omega
      refine dcall_still' (hf) rfl ?_
      try simp (maxSteps := 2000000) -implicitDefEqProofs only [zz, evop, ev, tget, tput, ok, V.isUndef, Ch.on, told, hput, V.one, ↓reduceIte, Nat.reduceLT, Nat.reduceEqDiff, Nat.reduceAdd, dRd]
      refine wdraw_plan [⟨[], false, [10, 66, 67, 68, 69, 70, 71, 72, 73], [], false⟩, ⟨[0], false, [10, 66, 67, 68, 69, 70, 71, 72, 73], [], false⟩, ⟨[0, 1], false, [10, 66, 67, 68, 69, 70, 71, 72, 73], [], false⟩, ⟨[0, 1, 2], false, [10, 66, 67, 68, 69, 70, 71, 72, 73], [], false⟩, ⟨[], false, [10, 62, 63, 64, 65, 68, 69, 70, 71, 72], [0, 1, 2, 3], false⟩, ⟨[4], false, [10, 62, 63, 64, 65, 68, 69, 70, 71, 72], [0, 1, 2, 3], false⟩, ⟨[], false, [10, 62, 63, 64, 65, 66, 67], [0, 1, 2, 3, 4, 5], false⟩, ⟨[6], false, [10, 62, 63, 64, 65, 66, 67], [0, 1, 2, 3, 4, 5], false⟩, ⟨[6, 7], false, [10, 62, 63, 64, 65, 66, 67], [0, 1, 2, 3, 4, 5], false⟩, ⟨[6, 7, 8], false, [10, 62, 63, 64, 65, 66, 67], [0, 1, 2, 3, 4, 5], false⟩, ⟨[6, 7, 8, 9], false, [10, 62, 63, 64, 65, 66, 67], [0, 1, 2, 3, 4, 5], false⟩, ⟨[4, 5, 6, 7, 8, 9, 10], false, [10, 62, 63, 64, 65], [0, 1, 2, 3], false⟩, ⟨[0, 1, 2, 3, 4, 5, 6, 7, 8, 9, 10, 11], false, [10], [], false⟩, ⟨[0, 1, 2, 3, 4, 5, 6, 7, 8, 9, 10, 11, 12], false, [10], [], false⟩, ⟨[], false, [62, 63, 64, 65, 66, 67, 68, 69, 70, 71, 72, 73, 74, 75], [0, 1, 2, 3, 4, 5, 6, 7, 8, 9, 10, 11, 12, 13], false⟩, ⟨[0, 1, 2, 3, 4, 5, 6, 7, 8, 9, 10, 11, 12, 13, 14], true, [], [], false⟩] (by decide) ?_
      simp (maxSteps := 2000000) -implicitDefEqProofs only [zz, zE, evop, ev, tget, tput, ok, V.isUndef, intBin, Ch.on, hget, hput, V.cells, D.cells, V.isAgg, V.one, loadD, structAt, sliceOf, isPtr, Blk.width, lenOf, splice, D.over, ↓reduceIte, reduceCtorEq, Nat.reduceLT, Nat.reduceEqDiff, Nat.reduceAdd, Nat.reduceLeDiff, dW, List.getElem?_map, hrx, Option.map_some]
      refine ⟨hrne, y6, ?_⟩
      by_cases ho : (recR r x.b).2 = 0
      case neg =>
        have eo : ((recR r x.b).2 != 0) = true := by simpa using ho
        have hst : loadT t x h r = endT t 5 0 := by unfold loadT; rw [if_neg hn, if_neg hng, hfd]; simp only; rw [if_pos (.inl ho)]
        rw [hst]
        have hr := r_x_end t h r 5 0
        unfold bX at hr
        refine wdraw_plan [⟨[], true, [], [], false⟩, ⟨[0], true, [], [], false⟩, ⟨[0, 1], true, [], [], false⟩, ⟨[0, 1, 2], true, [], [], false⟩, ⟨[0, 1, 2, 3], false, [82, 83, 84, 85, 86], [], false⟩, ⟨[0, 1, 2, 3, 4], false, [82, 83, 84, 85, 86], [], false⟩, ⟨[0, 1, 2, 3], false, [80, 81], [4, 5], false⟩, ⟨[0, 1, 2, 3, 6], false, [80, 81], [4, 5], false⟩, ⟨[0, 1, 2, 3, 6, 7], false, [80, 81], [4, 5], false⟩, ⟨[0, 1, 2, 3, 6, 7, 8], false, [80, 81], [4, 5], false⟩, ⟨[0, 1, 2, 3, 6, 7, 8, 9], false, [80, 81], [4, 5], false⟩, ⟨[0, 1, 2, 3, 4, 5, 6, 7, 8, 9, 10], false, [], [], false⟩, ⟨[0, 1, 2, 3, 4, 5, 6, 7, 8, 9, 10, 11], true, [], [], false⟩] (by decide) ?_
        simp (maxSteps := 2000000) -implicitDefEqProofs only [zz, zE, evop, ev, ofVal, tget, tput, ok, V.isUndef, intBin, guardOf, Ch.on, calleeOf, withArgs, told, hget, hput, structAt, Blk.width, ↓reduceIte, reduceCtorEq, Nat.reduceLT, Nat.reduceEqDiff, Nat.reduceAdd, Nat.reduceSub, eo]
        refine acall_ref [0] (hr) (by first | rfl | simp [renL, V.ren, frρ, renL_ds]) (by simp) rfl (by simp) (by simp) (by intro j hj; match j, hj with | 0, _ => exact ⟨by simp [hget], rfl⟩) ?_
        try simp (maxSteps := 2000000) -implicitDefEqProofs only [zz, tput, hput, resOf, resVs, ↓reduceIte, Nat.reduceLT, Nat.reduceAdd, Blk.ren, V.ren, renL, frameH, putL]
        exact Weak.trimsM 1 (by simp) rfl (by simp [tget, V.lower, lowerL]) (by simp [Blk.lower, lowerL, V.lower])
      have eo : ((recR r x.b).2 != 0) = false := by simpa using ho
      by_cases hv : (recR r x.b).1 > t.snap
      case pos =>
        have hst : loadT t x h r = endT t 5 0 := by unfold loadT; rw [if_neg hn, if_neg hng, hfd]; simp only; rw [if_pos (.inr hv)]
        rw [hst]
        have hr := r_x_end t h r 5 0
        unfold bX at hr
        refine wdraw_plan [⟨[], true, [], [], false⟩, ⟨[0], true, [], [], false⟩, ⟨[0, 1], true, [], [], false⟩, ⟨[0, 1, 2], true, [], [], false⟩, ⟨[0, 1, 2, 3], false, [82, 83, 84, 85, 86], [], false⟩, ⟨[0, 1, 2, 3, 4], false, [82, 83, 84, 85, 86], [], false⟩, ⟨[0, 1, 2, 3], false, [80, 81], [4, 5], false⟩, ⟨[0, 1, 2, 3, 6], false, [80, 81], [4, 5], false⟩, ⟨[0, 1, 2, 3, 6, 7], false, [80, 81], [4, 5], false⟩, ⟨[0, 1, 2, 3, 6, 7, 8], false, [80, 81], [4, 5], false⟩, ⟨[0, 1, 2, 3, 6, 7, 8, 9], false, [80, 81], [4, 5], false⟩, ⟨[0, 1, 2, 3, 4, 5, 6, 7, 8, 9, 10], false, [], [], false⟩, ⟨[0, 1, 2, 3, 4, 5, 6, 7, 8, 9, 10, 11], true, [], [], false⟩] (by decide) ?_
        simp (maxSteps := 2000000) -implicitDefEqProofs only [zz, zE, evop, ev, ofVal, tget, tput, ok, V.isUndef, intBin, guardOf, Ch.on, calleeOf, withArgs, told, hget, hput, V.cells, D.cells, V.isAgg, loadD, structAt, isPtr, Blk.width, ↓reduceIte, reduceCtorEq, Nat.reduceLT, Nat.reduceEqDiff, Nat.reduceAdd, Nat.reduceSub, Nat.reduceLeDiff, eo, hv]
        refine acall_ref [0] (hr) (by first | rfl | simp [renL, V.ren, frρ, renL_ds]) (by simp) rfl (by simp) (by simp) (by intro j hj; match j, hj with | 0, _ => exact ⟨by simp [hget], rfl⟩) ?_
        try simp (maxSteps := 2000000) -implicitDefEqProofs only [zz, tput, hput, resOf, resVs, ↓reduceIte, Nat.reduceLT, Nat.reduceAdd, Blk.ren, V.ren, renL, frameH, putL]
        exact Weak.trimsM 1 (by simp) rfl (by simp [tget, V.lower, lowerL]) (by simp [Blk.lower, lowerL, V.lower])
      have hst : loadT t x h r = putT { t with reads := t.reads ++ [(x.b, (recR r x.b).1, (heapGet h x.b).1)] } x.a (heapGet h x.b).1 := by
        unfold loadT; rw [if_neg hn, if_neg hng, hfd]; simp only; rw [if_neg (by omega)]
      rw [hst]
      refine wdraw_plan [⟨[], true, [], [], false⟩, ⟨[0], true, [], [], false⟩, ⟨[0, 1], true, [], [], false⟩, ⟨[0, 1, 2], true, [], [], false⟩, ⟨[0, 1, 2, 3], false, [82, 83, 84, 85, 86], [], false⟩, ⟨[0, 1, 2, 3, 4], false, [82, 83, 84, 85, 86], [], false⟩, ⟨[0, 1, 2, 3], false, [80, 81], [4, 5], false⟩, ⟨[0, 1, 2, 3, 6], false, [80, 81], [4, 5], false⟩, ⟨[0, 1, 2, 3, 6, 7], false, [80, 81], [4, 5], false⟩, ⟨[0, 1, 2, 3, 6, 7, 8], false, [80, 81], [4, 5], false⟩, ⟨[0, 1, 2, 3, 6, 7, 8, 9], false, [80, 81], [4, 5], false⟩, ⟨[0, 1, 2, 3, 4, 5, 6, 7, 8, 9, 10], false, [], [], false⟩, ⟨[0, 1, 2, 3, 4, 5, 6, 7, 8, 9, 10, 11], true, [], [], false⟩] (by decide) ?_
      simp (maxSteps := 2000000) -implicitDefEqProofs only [zz, zE, evop, ev, ofVal, tget, tput, ok, V.isUndef, intBin, guardOf, Ch.on, told, hget, hput, V.cells, D.cells, V.isAgg, loadD, structAt, isPtr, Blk.width, ↓reduceIte, reduceCtorEq, Nat.reduceLT, Nat.reduceEqDiff, Nat.reduceAdd, Nat.reduceSub, Nat.reduceLeDiff, eo, hv]
      refine wdraw_plan [⟨[], false, [91, 92, 93, 94, 95, 96, 97, 98, 99, 100, 101, 102, 103, 104, 105, 106], [], true⟩, ⟨[], false, [92, 98, 99, 100, 101, 102, 103], [0], false⟩, ⟨[1], false, [92, 98, 99, 100, 101, 102, 103], [0], false⟩, ⟨[1, 2], false, [92, 98, 99, 100, 101, 102, 103], [0], false⟩, ⟨[1, 2, 3], false, [92, 98, 99, 100, 101, 102, 103], [0], false⟩, ⟨[1, 2, 3, 4], false, [92, 98, 99, 100, 101, 102, 103], [0], false⟩, ⟨[], false, [92, 93, 94, 95, 96, 97, 100, 101, 102], [0, 1, 2, 3, 4, 5], false⟩, ⟨[6], false, [92, 93, 94, 95, 96, 97, 100, 101, 102], [0, 1, 2, 3, 4, 5], false⟩, ⟨[], false, [92, 93, 94, 95, 96, 97, 98, 99, 102], [0, 1, 2, 3, 4, 5, 6, 7], false⟩, ⟨[8], false, [92, 93, 94, 95, 96, 97, 98, 99, 102], [0, 1, 2, 3, 4, 5, 6, 7], false⟩, ⟨[], false, [92, 93, 94, 95, 96, 97, 98, 99, 100, 101], [0, 1, 2, 3, 4, 5, 6, 7, 8, 9], false⟩, ⟨[6, 7, 8, 9, 10], false, [92, 93, 94, 95, 96, 97], [0, 1, 2, 3, 4, 5], false⟩, ⟨[1, 2, 3, 4, 5, 6, 7, 8, 9, 10, 11], true, [92], [], false⟩, ⟨[1, 2, 3, 4, 5, 6, 7, 8, 9, 10, 11, 12], false, [92], [0], false⟩, ⟨[1, 2, 3, 4, 5, 6, 7, 8, 9, 10, 11, 12, 13], false, [92, 106], [0], false⟩, ⟨[1, 2, 3, 4, 5, 6, 7, 8, 9, 10, 11, 12, 13], false, [92, 105, 106, 107, 108, 109], [0, 14], true⟩, ⟨[0, 1, 2, 3, 4, 5, 6, 7, 8, 9, 10, 11, 12, 13, 14], false, [106], [15], false⟩, ⟨[0, 1, 2, 3, 4, 5, 6, 7, 8, 9, 10, 11, 12, 13, 14, 16], false, [106], [15], false⟩, ⟨[0, 1, 2, 3, 4, 5, 6, 7, 8, 9, 10, 11, 12, 13, 14, 16, 17], false, [106], [15], false⟩, ⟨[0, 1, 2, 3, 4, 5, 6, 7, 8, 9, 10, 11, 12, 13, 14, 16, 17, 18], true, [106], [], false⟩] (by decide) ?_
      simp (maxSteps := 2000000) -implicitDefEqProofs only [zz, zE, evop, ev, ofVal, tget, tput, ok, V.isUndef, calleeOf, withArgs, hget, hput, V.cells, D.cells, loadD, structAt, partsV, isPtr, Blk.width, splice, ↓reduceIte, reduceCtorEq, Nat.reduceLT, Nat.reduceEqDiff, Nat.reduceAdd, Nat.reduceLeDiff]
      have hadd := c_reads_Add t.reads (x.b, (recR r x.b).1, (heapGet h x.b).1) hrl hrd (by simp only [rightRd, tickR, Bool.and_eq_true, decide_eq_true_eq]; exact ⟨⟨z4, y2, y3⟩, z3⟩) hfd
      refine acall_ice' (hadd) ?_
      try simp (maxSteps := 2000000) -implicitDefEqProofs only [zz, zE, evop, ev, tget, tput, ok, V.isUndef, Ch.on, calleeOf, withArgs, tids, tidss, hget, hput, freeze, V.cells, D.cells, V.one, structAt, isPtr, Blk.width, splice, D.over, ↓reduceIte, reduceCtorEq, Nat.reduceLT, Nat.reduceEqDiff, Nat.reduceAdd, Nat.reduceSub, Nat.reduceLeDiff]
      have hr := r_x_put { t with reads := t.reads ++ [(x.b, (recR r x.b).1, (heapGet h x.b).1)] } h r x.a (heapGet h x.b).1 hreg ha hpc
      unfold bX at hr
      refine acall_ref [0] (hr) (by first | rfl | simp [renL, V.ren, frρ, renL_ds]) (by simp) rfl (by simp) (by simp) (by intro j hj; match j, hj with | 0, _ => exact ⟨by simp [hget], rfl⟩) ?_
      try simp (maxSteps := 2000000) -implicitDefEqProofs only [zz, tput, hput, resOf, resVs, ↓reduceIte, Nat.reduceLT, Nat.reduceAdd, Blk.ren, V.ren, renL, frameH, putL]
      exact Weak.trimsM 1 (by simp) rfl (by simp [tget, V.lower, lowerL]) (by simp [Blk.lower, lowerL, V.lower])
end Go.Proofs.YtjhfpabldidlgaaGreat.AM

set_option linter.all false
set_option maxRecDepth 100000
set_option maxHeartbeats 4000000
namespace Go.Proofs.YtjhfpabldidlgaaGreat.AM
open Go Go.RowKit

theorem c_attempt_Begin (c : List St) (who snap : Int) (hl : c.length ≤ 1000000) (ht : ∀ s ∈ c, s.t.length ≤ 1000000) : CSpec Tryz.prog 15 [.vec (c.map dS), .int .i64 who, .int .i64 snap] (.tuple [dT (begT c who snap), .int .i64 (if mayB c who snap = true then 0 else 1)]) := by
  have bad : mayB c who snap = false → begT c who snap = zeroT ∧ (if mayB c who snap = true then (0 : Int) else 1) = 1 := fun h => by simp [begT, h]
  refine CSpec.of_awp envOf_ok hmix Tryz.func15 rfl (fun args w => Tryz.call15 args w) (by simp [Tryz.f15]) ?_
  simp only [Tryz.f15]
  simp (maxSteps := 2000000) -implicitDefEqProofs only [zz, zE, evop, ev, ofVal, tget, tput, ok, V.isUndef, initT, Ch.on, calleeOf, withArgs, hput, ↓reduceIte, reduceCtorEq, Nat.reduceLT, Nat.reduceAdd]
  refine acall_flat' (c_code_Check c hl ht) rfl ?_
  try simp (maxSteps := 2000000) -implicitDefEqProofs only [zz, zE, evop, ev, ofVal, tget, tput, ok, V.isUndef, intBin, guardOf, Ch.on, calleeOf, withArgs, told, xport, xports, hget, hput, V.cells, V.one, partsV, splice, resOf, resV, resVs, ↓reduceIte, reduceCtorEq, Nat.reduceLT, Nat.reduceEqDiff, Nat.reduceAdd, Nat.reduceLeDiff, nilTest]
  by_cases h1 : codeC c = 0
  case neg =>
    have e1 : (codeC c != 0) = true := by simpa using h1
    obtain ⟨b1, b2⟩ := bad (by simp [mayB, h1])
    rw [b1, b2]
    simp (maxSteps := 2000000) -implicitDefEqProofs only [zz, ↓reduceIte, e1]
    rfl
  have e1 : (codeC c != 0) = false := by simpa using h1
  by_cases h2 : who < 1
  · obtain ⟨b1, b2⟩ := bad (by have : ¬ 1 ≤ who := by omega
                               simp [mayB, this])
    rw [b1, b2]
    simp (maxSteps := 2000000) -implicitDefEqProofs only [zz, ↓reduceIte, e1, h2]
    rfl
  by_cases h3 : who > 8
  · obtain ⟨b1, b2⟩ := bad (by have : ¬ who ≤ 8 := by omega
                               simp [mayB, this])
    rw [b1, b2]
    simp (maxSteps := 2000000) -implicitDefEqProofs only [zz, ↓reduceIte, e1, h2, h3]
    rfl
  simp (maxSteps := 2000000) -implicitDefEqProofs only [zz, ↓reduceIte, e1, h2, h3]
  refine acall_flat' (c_tick_Right snap) rfl ?_
  try simp (maxSteps := 2000000) -implicitDefEqProofs only [zz, zE, evop, ev, ofVal, tget, tput, ok, V.isUndef, guardOf, Ch.on, told, xport, xports, hget, hput, V.cells, V.one, sliceOf, partsV, splice, resOf, resV, resVs, ↓reduceIte, reduceCtorEq, Nat.reduceLT, Nat.reduceEqDiff, Nat.reduceAdd, Nat.reduceLeDiff, Int.reduceToNat]
  cases h4 : tickR snap with
  | false =>
    obtain ⟨b1, b2⟩ := bad (by simp [mayB, h4])
    rw [b1, b2]
    simp (maxSteps := 2000000) -implicitDefEqProofs only [zz, ↓reduceIte]
    rfl
  | true =>
    have hB : mayB c who snap = true := by
      have a1 : 1 ≤ who := by omega
      have a2 : who ≤ 8 := by omega
      simp [mayB, h1, h4, a1, a2]
    have g1 : begT c who snap = setT c.length (newT who snap) := by simp [begT, hB]
    rw [g1, if_pos hB]
    simp (maxSteps := 2000000) -implicitDefEqProofs only [zz, ↓reduceIte]
    have hs : CSpec Tryz.prog 54 [.agg [.int .i64 who, .int .i64 snap, .int .i64 0, .vec [.int .i64 0, .int .i64 0, .int .i64 0, .int .i64 0, .int .i64 0, .int .i64 0, .int .i64 0, .int .i64 0], .vec [], .vec [], .vec [], .vec [], .vec [], .int .i64 0, .int .i64 0], .vec (c.map dS)] (dT (setT c.length (newT who snap))) :=
      c_settled (newT who snap) c (by simp [newT, zeroT]) (by simp [newT, zeroT]) (by simp [newT, zeroT])
    have hok : okEl 1 (D.int IntKind.i64 0) = true := rfl
    simp (maxSteps := 2000000) -implicitDefEqProofs only [zz, zE, evop, ev, tget, tput, ok, V.isUndef, Ch.on, calleeOf, withArgs, hput, V.cells, V.one, V.clo, clos, partsV, splice, ↓reduceIte, reduceCtorEq, Nat.reduceLT, Nat.reduceEqDiff, Nat.reduceAdd, Nat.reduceLeDiff, zeroD, clos, V.clo, hok, List.replicate]
    refine ⟨by decide, ?_⟩
    refine acall_ice' (hs) ?_
    try simp (maxSteps := 2000000) -implicitDefEqProofs only [zz, zE, evop, ev, tget, tput, tids, tidss, hget, hput, Blk.ice, freeze, V.cells, splice, ↓reduceIte, Nat.reduceLT, Nat.reduceEqDiff, Nat.reduceAdd, Nat.reduceLeDiff]
    simp (maxSteps := 2000000) -implicitDefEqProofs only [zz, zE, evop, ev, ofVal, tget, tput, ok, V.isUndef, Ch.on, xport, xports, hget, hput, V.one, resOf, resV, resVs, ↓reduceIte, Nat.reduceLT, Nat.reduceEqDiff, Nat.reduceAdd, Nat.reduceLeDiff, dT, tyC]
end Go.Proofs.YtjhfpabldidlgaaGreat.AM
