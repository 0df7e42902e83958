/- The document's Get. -/
import Derived.Test.YthpapgbpmkgfeaaGg
import Derived.Test.YthpapgbpmkgfeaaFr

set_option linter.all false
set_option maxRecDepth 100000
set_option maxHeartbeats 4000000
namespace Go.Proofs.Ythpapgbpmkgfeaa.AM
open Go Go.RowKit

theorem getW_snoc' (zs : List (Int × Int)) (w : Int × Int) (c : Int) : getW (zs ++ [w]) c = if w.1 = c then (w.2, true) else getW zs c := by
  unfold getW
  rw [List.reverse_append, List.reverse_singleton, List.singleton_append, List.find?_cons]
  by_cases h : w.1 = c
  · simp [h]
  · have : (w.1 == c) = false := by simpa using h
    simp [this, h]

theorem logR_nonneg {L : Lg} (h : logR L = true) : ∀ w ∈ L.1, 0 ≤ w.1 := by
  simp only [logR, Bool.and_eq_true, decide_eq_true_eq, Bool.not_eq_eq_eq_not, Bool.not_true, List.any_eq_false] at h
  intro w hw
  have := h.1.1.2 w hw
  simp [wrongW] at this
  omega

theorem c_r06_Get (l : Lg) (c : Int) (h1 : l.1.length ≤ 1000000) : CSpec Try.prog 27 [dLg l, .int .i64 c] (.tuple [.int .i64 (getW l.1 c).1, .bool (getW l.1 c).2]) := by
  refine CSpec.of_awp envOf_ok hmix Try.func27 rfl (fun args w => Try.call27 args w) (by simp [Try.f27]) ?_
  simp only [Try.f27]
  simp (maxSteps := 2000000) -implicitDefEqProofs only [z00, z01, z02, z03, z04, z05, z06, z07, z08, z09, z0a, z0b, z0c, z0d, z0e, z0f, z0g, z0h, z0i, z0j, z0k, z0l, z0m, z0n, z0o, z0p, z0q, z0r, z0s, z0t, z0u, z0v, z0w, z0x, z0y, z0z, z10, z11, z12, z13, z14, z15, z16, z17, z18, z19, z1a, z1b, z1c, z1d, z1e, z1f, z1g, z1h, z1i, z1j, z1k, z1l, z1m, z1n, z1o, z1p, z1q, z1r, z1s, z1t, z1u, z1v, z1w, z1x, z1y, z1z, z20, z21, z22, z23, z24, z25, z26, z27, z28, z29, z2a, z2b, z2c, z2d, z2e, z2f, z2g, z2h, z2i, z2j, z2k, z2l, z2m, z2n, z2o, z2p, z2q, z2r, z2s, z2t, z2u, z2v, z2w, z2x, z2y, z2z, z30, z31, z32, z33, z34, z35, z36, z37, z38, z39, z3a, z3b, z3c, z3d, z3e, z3f, z3g, z3h, z3i, z3j, z3k, z3l, z3m, z3n, z3o, z3p, z3q, z3r, z3s, z3t, z3u, z3v, z3w, evop, ev, ofVal, tget, tput, ok, V.isUndef, intBin, guardOf, initT, Ch.on, calleeOf, withArgs, told, xport, xports, tids, tidss, hget, hput, Blk.ice, freeze, V.cells, D.cells, V.isAgg, V.one, V.clo, clos, V.toD, loadD, structAt, eqCells, D.scalarEq, sliceOf, partsD, partsV, bound, isPtr, Blk.width, elems, lenOf, splice, D.over, resOf, resV, resVs, z3x, z3y, z3z, z40, z41, ↓reduceIte, reduceCtorEq, ↓reduceDIte, Nat.reduceLT, Nat.reduceEqDiff, Nat.reduceAdd, Nat.reduceSub, Nat.reduceMul, Nat.reduceLeDiff, Nat.reduceBEq, Nat.reduceBNe, z42, z43, z44, z45, z46, z47, z48, z49, z4a, z4b, z4c, z4d, z4e, z4f, z4g, z4h, z4i, z4j, z4k, z4l, z4m, z4n, z4o, z4p, z4q, z4r, z4s, z4t, z4u, z4v, z4w, z4x, z4y, z4z, z50, z51, z52, z53, Int.reduceNeg, Int.reduceAdd, Int.reduceSub, Int.reduceToNat, z54, z55, z56, z57, z58, z59, z5a, z5b, nilTest, z5c, z5d, z5e, z5f, shiftH, Blk.ren, V.ren, renL, initV, frameH, putL, frρ, z5g, z5h, z5i, z5j, E2, E3, E4, E5, E6, E7, E8, E12, E15, E16, E17, E18, E19, E21, E22, E23, E24, E25, E26, E27, E30, E32, E50, E53, E56, E57, E71, E94, E96, E106, E111, E119, E120, E124, E126, E131, E132, E133, E135, E136, E138, E139, E140, E141, E142, dI, dW, dLg, dLE]
  refine wloop_count l.1.length (fun i => [(8, .d (.int .i64 i)), (6, .d (.int .i64 (getW (l.1.take i) c).1)), (7, .d (.bool (getW (l.1.take i) c).2)), (1, .d (.int .i64 c)), (2, .ptr 0 0 0)]) (fun _ => [bLg l]) (fun i => True) trivial (Weak.sub (by simp [tget, getW])) (fun i hi _ => ?_) (fun _ => ?_)
  · have hx : l.1[i]? = some l.1[i] := List.getElem?_eq_getElem hi
    have h' : ((i : Int) < (l.1.length : Int)) := by omega
    have hw : IntKind.i64.wrap ((i : Int) + 1) = ((i + 1 : Nat) : Int) := by rw [wrap_in (by omega)]; omega
    have ht : l.1.take (i + 1) = l.1.take i ++ [l.1[i]] := by rw [List.take_succ, hx]; rfl
    have hg := getW_snoc' (l.1.take i) l.1[i] c
    rw [← ht] at hg
    simp (maxSteps := 2000000) -implicitDefEqProofs only [z00, z01, z02, z03, z04, z05, z06, z07, z08, z09, z0a, z0b, z0c, z0d, z0e, z0f, z0g, z0h, z0i, z0j, z0k, z0l, z0m, z0n, z0o, z0p, z0q, z0r, z0s, z0t, z0u, z0v, z0w, z0x, z0y, z0z, z10, z11, z12, z13, z14, z15, z16, z17, z18, z19, z1a, z1b, z1c, z1d, z1e, z1f, z1g, z1h, z1i, z1j, z1k, z1l, z1m, z1n, z1o, z1p, z1q, z1r, z1s, z1t, z1u, z1v, z1w, z1x, z1y, z1z, z20, z21, z22, z23, z24, z25, z26, z27, z28, z29, z2a, z2b, z2c, z2d, z2e, z2f, z2g, z2h, z2i, z2j, z2k, z2l, z2m, z2n, z2o, z2p, z2q, z2r, z2s, z2t, z2u, z2v, z2w, z2x, z2y, z2z, z30, z31, z32, z33, z34, z35, z36, z37, z38, z39, z3a, z3b, z3c, z3d, z3e, z3f, z3g, z3h, z3i, z3j, z3k, z3l, z3m, z3n, z3o, z3p, z3q, z3r, z3s, z3t, z3u, z3v, z3w, evop, ev, ofVal, tget, tput, ok, V.isUndef, intBin, guardOf, initT, Ch.on, calleeOf, withArgs, told, xport, xports, tids, tidss, hget, hput, Blk.ice, freeze, V.cells, D.cells, V.isAgg, V.one, V.clo, clos, V.toD, loadD, structAt, eqCells, D.scalarEq, sliceOf, partsD, partsV, bound, isPtr, Blk.width, elems, lenOf, splice, D.over, resOf, resV, resVs, z3x, z3y, z3z, z40, z41, ↓reduceIte, reduceCtorEq, ↓reduceDIte, Nat.reduceLT, Nat.reduceEqDiff, Nat.reduceAdd, Nat.reduceSub, Nat.reduceMul, Nat.reduceLeDiff, Nat.reduceBEq, Nat.reduceBNe, z42, z43, z44, z45, z46, z47, z48, z49, z4a, z4b, z4c, z4d, z4e, z4f, z4g, z4h, z4i, z4j, z4k, z4l, z4m, z4n, z4o, z4p, z4q, z4r, z4s, z4t, z4u, z4v, z4w, z4x, z4y, z4z, z50, z51, z52, z53, Int.reduceNeg, Int.reduceAdd, Int.reduceSub, Int.reduceToNat, z54, z55, z56, z57, z58, z59, z5a, z5b, nilTest, z5c, z5d, z5e, z5f, shiftH, Blk.ren, V.ren, renL, initV, frameH, putL, frρ, z5g, z5h, z5i, z5j, E2, E3, E4, E5, E6, E7, E8, E12, E15, E16, E17, E18, E19, E21, E22, E23, E24, E25, E26, E27, E30, E32, E50, E53, E56, E57, E71, E94, E96, E106, E111, E119, E120, E124, E126, E131, E132, E133, E135, E136, E138, E139, E140, E141, E142, dI, dW, dLg, dLE, h', bLg, List.getElem?_map, hx, Option.map_some, Int.natCast_nonneg]
    split
    · rename_i e
      have e' : l.1[i].1 = c := by simpa using e
      rw [if_pos e'] at hg
      exact Weak.sub (by simp [tget, hw, hg])
    · rename_i e
      have e' : ¬ l.1[i].1 = c := by simpa using e
      rw [if_neg e'] at hg
      exact Weak.sub (by simp [tget, hw, hg])
  · have h' : ¬ ((l.1.length : Int) < (l.1.length : Int)) := by omega
    simp (maxSteps := 2000000) -implicitDefEqProofs only [z00, z01, z02, z03, z04, z05, z06, z07, z08, z09, z0a, z0b, z0c, z0d, z0e, z0f, z0g, z0h, z0i, z0j, z0k, z0l, z0m, z0n, z0o, z0p, z0q, z0r, z0s, z0t, z0u, z0v, z0w, z0x, z0y, z0z, z10, z11, z12, z13, z14, z15, z16, z17, z18, z19, z1a, z1b, z1c, z1d, z1e, z1f, z1g, z1h, z1i, z1j, z1k, z1l, z1m, z1n, z1o, z1p, z1q, z1r, z1s, z1t, z1u, z1v, z1w, z1x, z1y, z1z, z20, z21, z22, z23, z24, z25, z26, z27, z28, z29, z2a, z2b, z2c, z2d, z2e, z2f, z2g, z2h, z2i, z2j, z2k, z2l, z2m, z2n, z2o, z2p, z2q, z2r, z2s, z2t, z2u, z2v, z2w, z2x, z2y, z2z, z30, z31, z32, z33, z34, z35, z36, z37, z38, z39, z3a, z3b, z3c, z3d, z3e, z3f, z3g, z3h, z3i, z3j, z3k, z3l, z3m, z3n, z3o, z3p, z3q, z3r, z3s, z3t, z3u, z3v, z3w, evop, ev, ofVal, tget, tput, ok, V.isUndef, intBin, guardOf, initT, Ch.on, calleeOf, withArgs, told, xport, xports, tids, tidss, hget, hput, Blk.ice, freeze, V.cells, D.cells, V.isAgg, V.one, V.clo, clos, V.toD, loadD, structAt, eqCells, D.scalarEq, sliceOf, partsD, partsV, bound, isPtr, Blk.width, elems, lenOf, splice, D.over, resOf, resV, resVs, z3x, z3y, z3z, z40, z41, ↓reduceIte, reduceCtorEq, ↓reduceDIte, Nat.reduceLT, Nat.reduceEqDiff, Nat.reduceAdd, Nat.reduceSub, Nat.reduceMul, Nat.reduceLeDiff, Nat.reduceBEq, Nat.reduceBNe, z42, z43, z44, z45, z46, z47, z48, z49, z4a, z4b, z4c, z4d, z4e, z4f, z4g, z4h, z4i, z4j, z4k, z4l, z4m, z4n, z4o, z4p, z4q, z4r, z4s, z4t, z4u, z4v, z4w, z4x, z4y, z4z, z50, z51, z52, z53, Int.reduceNeg, Int.reduceAdd, Int.reduceSub, Int.reduceToNat, z54, z55, z56, z57, z58, z59, z5a, z5b, nilTest, z5c, z5d, z5e, z5f, shiftH, Blk.ren, V.ren, renL, initV, frameH, putL, frρ, z5g, z5h, z5i, z5j, E2, E3, E4, E5, E6, E7, E8, E12, E15, E16, E17, E18, E19, E21, E22, E23, E24, E25, E26, E27, E30, E32, E50, E53, E56, E57, E71, E94, E96, E106, E111, E119, E120, E124, E126, E131, E132, E133, E135, E136, E138, E139, E140, E141, E142, dI, dW, dLg, dLE, h', bLg]
    simp

def ltW (x y : Int × Int) : Bool := decide (cmpI x.1 y.1 < 0)
def qW (a b : Int × Int) : Bool := a.1 == b.1
def pW (c : Int) (p : Int × Int) : Bool := p.1 == c
theorem ltW_eq (x y : Int × Int) : ltW x y = decide (x.1 < y.1) := by simp [ltW, cmpI_lt]
theorem ltW_nt (x y z : Int × Int) (h1 : ltW x y = false) (h2 : ltW y z = false) : ltW x z = false := by
  rw [ltW_eq, decide_eq_false_iff_not] at *; omega
theorem ltW_as (x y : Int × Int) (h : ltW x y = true) : ltW y x = false := by
  rw [ltW_eq] at *; simp at *; omega
theorem lastW_eq (ws : List (Int × Int)) : lastW ws = cmpct qW (isort ltW ws.reverse) := rfl

theorem or_assoc' {α : Type} (a b c : Option α) : (a.or b).or c = a.or (b.or c) := by cases a <;> rfl

theorem find_insR (c : Int) (x : Int × Int) {A : List (Int × Int)} (h : PW ltW A) : (insR ltW x A).find? (pW c) = (A.find? (pW c)).or (if pW c x = true then some x else none) := by
  obtain ⟨l1, l2, rfl, g1, g2⟩ := cut_at ltW_nt h x
  rw [insR_cut g1 g2, List.find?_append, List.find?_append, List.find?_cons]
  cases hp : pW c x with
  | true =>
    have : l2.find? (pW c) = none := by
      rw [List.find?_eq_none]
      intro y hy
      have := g2 y hy
      rw [ltW_eq] at this
      simp only [pW, beq_iff_eq] at *
      simp at this
      omega
    rw [this]; simp
  | false => simp

theorem find_isort (c : Int) (l : List (Int × Int)) : (isort ltW l).find? (pW c) = l.find? (pW c) := by
  have : ∀ (l A : List (Int × Int)), PW ltW A → (l.foldl (fun A x => insR ltW x A) A).find? (pW c) = (A.find? (pW c)).or (l.find? (pW c)) := by
    intro l
    induction l with
    | nil => intro A _; simp
    | cons x r ih =>
      intro A h
      rw [List.foldl_cons, ih _ (insR_pw ltW_nt ltW_as h x), find_insR c x h, or_assoc', List.find?_cons]
      congr 1
      cases pW c x <;> rfl
  have h := this l [] List.Pairwise.nil
  simpa [isort] using h

theorem find_cmpctGo (c : Int) : ∀ (r : List (Int × Int)) (y : Int × Int), pW c y = false → (cmpctGo qW y r).find? (pW c) = r.find? (pW c)
  | [], y, _ => rfl
  | z :: r, y, h => by
    simp only [cmpctGo]
    cases hq : qW z y with
    | true =>
      have hz : pW c z = false := by simp only [qW, pW, beq_iff_eq, beq_eq_false_iff_ne] at *; omega
      rw [cond_true, find_cmpctGo c r z hz, List.find?_cons, hz]
    | false =>
      rw [cond_false, List.find?_cons, List.find?_cons]
      cases hz : pW c z with
      | true => rfl
      | false => exact find_cmpctGo c r z hz

theorem find_cmpct (c : Int) (l : List (Int × Int)) : (cmpct qW l).find? (pW c) = l.find? (pW c) := by
  cases l with
  | nil => rfl
  | cons x r =>
    simp only [cmpct, List.find?_cons]
    cases hx : pW c x with
    | true => rfl
    | false => exact find_cmpctGo c r x hx

theorem find_lastW (c : Int) (ws : List (Int × Int)) : (lastW ws).find? (pW c) = ws.reverse.find? (pW c) := by
  rw [lastW_eq, find_cmpct, find_isort]

def UpW (l : List (Int × Int)) : Prop := l.Pairwise (fun x y => x.1 < y.1)

theorem up_cmpctGo : ∀ (r : List (Int × Int)) (y : Int × Int), PW ltW (y :: r) → UpW (y :: cmpctGo qW y r)
  | [], y, _ => by simp [cmpctGo, UpW]
  | z :: r, y, h => by
    obtain ⟨h1, h2⟩ := List.pairwise_cons.1 h
    have hyz := h1 z (by simp)
    rw [ltW_eq, decide_eq_false_iff_not] at hyz
    have ih := up_cmpctGo r z h2
    obtain ⟨i1, i2⟩ := List.pairwise_cons.1 ih
    simp only [cmpctGo]
    cases hq : qW z y with
    | true =>
      simp only [qW, beq_iff_eq] at hq
      exact List.pairwise_cons.2 ⟨fun a ha => by have := i1 a ha; omega, i2⟩
    | false =>
      simp only [qW, beq_eq_false_iff_ne, ne_eq] at hq
      refine List.pairwise_cons.2 ⟨fun a ha => ?_, ih⟩
      rcases List.mem_cons.1 ha with rfl | ha
      · omega
      · have := i1 a ha; omega

theorem up_lastW (ws : List (Int × Int)) : UpW (lastW ws) := by
  rw [lastW_eq]
  have h := isort_pw ltW_nt ltW_as ws.reverse
  cases e : isort ltW ws.reverse with
  | nil => exact List.Pairwise.nil
  | cons x r => rw [e] at h; exact up_cmpctGo r x h

theorem lastW_cell {ws : List (Int × Int)} {w : Int × Int} (h : w ∈ ws) : ∃ p ∈ lastW ws, p.1 = w.1 := by
  have hf := find_lastW w.1 ws
  cases e : (lastW ws).find? (pW w.1) with
  | some p =>
    refine ⟨p, List.mem_of_find?_eq_some e, ?_⟩
    have := List.find?_some e
    simpa [pW] using this
  | none =>
    rw [e] at hf
    have := List.find?_eq_none.1 hf.symm w (by simpa using h)
    simp [pW] at this

theorem lastW_get {ws : List (Int × Int)} {p : Int × Int} (h : p ∈ lastW ws) : getW ws p.1 = (p.2, true) ∧ ∃ w ∈ ws, w.1 = p.1 := by
  have hf := find_lastW p.1 ws
  cases e : (lastW ws).find? (pW p.1) with
  | none =>
    have := List.find?_eq_none.1 e p h
    simp [pW] at this
  | some q =>
    have hq := List.mem_of_find?_eq_some e
    have hq1 : q.1 = p.1 := by have := List.find?_some e; simpa [pW] using this
    have hqp : q = p := by
      obtain ⟨i, hi, rfl⟩ := List.getElem_of_mem hq
      obtain ⟨j, hj, rfl⟩ := List.getElem_of_mem h
      have hu := List.pairwise_iff_getElem.1 (up_lastW ws)
      rcases Nat.lt_trichotomy i j with g | g | g
      · have := hu i j hi hj g; omega
      · subst g; rfl
      · have := hu j i hj hi g; omega
    subst hqp
    rw [e] at hf
    constructor
    · unfold getW
      have hf' : ws.reverse.find? (fun p => p.1 == q.1) = some q := hf.symm
      rw [hf']
    · exact ⟨q, by have := List.mem_of_find?_eq_some hf.symm; simpa using this, rfl⟩

def stepC (at' : Int) (b : Int) (w : Int × Int) : Int := if w.1 > at' ∧ (b < 0 ∨ w.1 < b) then w.1 else b
def nextC (ws : List (Int × Int)) (at' : Int) : Int := ws.foldl (stepC at') (-1)
theorem nextC_snoc (ws : List (Int × Int)) (w : Int × Int) (a : Int) : nextC (ws ++ [w]) a = stepC a (nextC ws a) w := by simp [nextC]

def invC (ws : List (Int × Int)) (a b : Int) : Prop := (b = -1 ∧ ∀ w ∈ ws, w.1 ≤ a) ∨ (0 ≤ b ∧ a < b ∧ (∃ w ∈ ws, w.1 = b) ∧ ∀ w ∈ ws, a < w.1 → b ≤ w.1)

theorem nextC_inv {ws : List (Int × Int)} (h0 : ∀ w ∈ ws, 0 ≤ w.1) (a : Int) : invC ws a (nextC ws a) := by
  have : ∀ (l pre : List (Int × Int)) (b : Int), (∀ w ∈ l, 0 ≤ w.1) → invC pre a b → invC (pre ++ l) a (l.foldl (stepC a) b) := by
    intro l
    induction l with
    | nil => intro pre b _ h; simpa using h
    | cons x r ih =>
      intro pre b hl h
      have e : pre ++ x :: r = (pre ++ [x]) ++ r := by simp
      rw [e, List.foldl_cons]
      refine ih _ _ (fun w hw => hl w (by simp [hw])) ?_
      have hx := hl x (by simp)
      unfold stepC
      rcases h with ⟨rfl, h⟩ | ⟨b0, ab, ⟨w, hw, hwb⟩, h⟩
      · by_cases g : x.1 > a
        · rw [if_pos ⟨g, .inl (by omega)⟩]
          refine .inr ⟨hx, g, ⟨x, by simp, rfl⟩, fun v hv hav => ?_⟩
          rcases List.mem_append.1 hv with hv | hv
          · have := h v hv; omega
          · obtain rfl : v = x := by simpa using hv
            exact Int.le_refl _
        · rw [if_neg (fun g' => g g'.1)]
          refine .inl ⟨rfl, fun v hv => ?_⟩
          rcases List.mem_append.1 hv with hv | hv
          · exact h v hv
          · obtain rfl : v = x := by simpa using hv
            omega
      · by_cases g : x.1 > a ∧ (b < 0 ∨ x.1 < b)
        · rw [if_pos g]
          refine .inr ⟨hx, g.1, ⟨x, by simp, rfl⟩, fun v hv hav => ?_⟩
          rcases List.mem_append.1 hv with hv | hv
          · have := h v hv hav; omega
          · obtain rfl : v = x := by simpa using hv
            exact Int.le_refl _
        · rw [if_neg g]
          refine .inr ⟨b0, ab, ⟨w, by simp [hw], hwb⟩, fun v hv hav => ?_⟩
          rcases List.mem_append.1 hv with hv | hv
          · exact h v hv hav
          · obtain rfl : v = x := by simpa using hv
            omega
  have h := this ws [] (-1) h0 (.inl ⟨rfl, by simp⟩)
  simpa [nextC] using h

/-- The cell of the last one of the first k. -/
def atC (ws : List (Int × Int)) (k : Nat) : Int := if k = 0 then -1 else (((lastW ws)[k - 1]?).getD (0, 0)).1

theorem atC_ge {ws : List (Int × Int)} {k j : Nat} (hk : k ≤ (lastW ws).length) (hj : j < k) : ((lastW ws)[j]'(by omega)).1 ≤ atC ws k := by
  unfold atC
  rw [if_neg (by omega), List.getElem?_eq_getElem (by omega), Option.getD_some]
  rcases Nat.eq_or_lt_of_le (Nat.le_sub_one_of_lt hj) with e | h
  · subst e; exact Int.le_refl _
  · have := List.pairwise_iff_getElem.1 (up_lastW ws) j (k - 1) (by omega) (by omega) h
    omega

theorem next_end {ws : List (Int × Int)} (h0 : ∀ w ∈ ws, 0 ≤ w.1) : nextC ws (atC ws (lastW ws).length) = -1 := by
  rcases nextC_inv h0 (atC ws (lastW ws).length) with h | ⟨_, g, ⟨w, hw, hwb⟩, _⟩
  · exact h.1
  · obtain ⟨p, hp, hpw⟩ := lastW_cell hw
    obtain ⟨j, hj, rfl⟩ := List.getElem_of_mem hp
    have := atC_ge (Nat.le_refl _) hj
    omega

theorem next_step {ws : List (Int × Int)} (h0 : ∀ w ∈ ws, 0 ≤ w.1) {k : Nat} (hk : k < (lastW ws).length) : nextC ws (atC ws k) = ((lastW ws)[k]).1 ∧ 0 ≤ ((lastW ws)[k]).1 := by
  obtain ⟨_, v, hv, hvk⟩ := lastW_get (List.getElem_mem hk)
  have hv0 := h0 v hv
  have hat : atC ws k < ((lastW ws)[k]).1 := by
    unfold atC
    split
    · omega
    · rw [List.getElem?_eq_getElem (by omega), Option.getD_some]
      exact List.pairwise_iff_getElem.1 (up_lastW ws) (k - 1) k (by omega) (by omega) (by omega)
  refine ⟨?_, by omega⟩
  rcases nextC_inv h0 (atC ws k) with h | ⟨_, g, ⟨w, hw, hwb⟩, g2⟩
  · have := h.2 v hv; omega
  · obtain ⟨p, hp, hpw⟩ := lastW_cell hw
    obtain ⟨j, hj, rfl⟩ := List.getElem_of_mem hp
    have h1 := g2 v hv (by omega)
    rcases Nat.lt_trichotomy j k with e | e | e
    · have := atC_ge (Nat.le_of_lt hk) e; omega
    · subst e; omega
    · have := List.pairwise_iff_getElem.1 (up_lastW ws) k j hk hj e; omega

end Go.Proofs.Ythpapgbpmkgfeaa.AM
