/- The texts Tj, Tk, Fq, Fr, Aa, Ab, Am33, Am34, Ac, Ad, Ae, Af, An, Gb, Gc, Gd, Ge, Gf, Ft, joined. -/
import Derived.RangeFuncNested
import Derived.RangeFuncBound
import Derived.RangeFuncCalls
import Derived.RangeFuncLeaves
import Derived.RangeFuncBox
import Derived.Shelf.Abstract
import Derived.Shelf.RegionOpen
import Derived.OwnWalkIn
import Derived.TacticsInMore
import Derived.LoopNIn
import Derived.LoopIn
import Derived.Test.YtjhfpabldidlgaaGreatJA3

/- Codes: may a step be. -/
set_option linter.all false
set_option maxRecDepth 100000
set_option maxHeartbeats 4000000
namespace Go.Proofs.YtjhfpabldidlgaaGreat.AM
open Go Go.RowKit

/-- A step of a code. -/
structure St where
  d : Int
  a : Int
  b : Int
  t : List (Int × Int)
  deriving DecidableEq
def dS (s : St) : D := .agg [.int .i64 s.d, .int .i64 s.a, .int .i64 s.b, .vec (s.t.map dW)]
def belowI (n most : Int) : Bool := decide (0 ≤ n) && decide (n < most)
def longI (n : Int) : Bool := decide (1 ≤ n) && decide (n ≤ 24)
def bareT (t : List (Int × Int)) : Bool := (t.length : Int) == 0
def mayS (s : St) : Bool :=
  if s.d = 1 then bareT s.t && belowI s.a 8 && belowI s.b 64
  else if s.d = 2 then belowI s.a 8 && (s.b == 0) && reckT s.t
  else if s.d = 3 then belowI s.a 64 && (s.b == 0) && reckT s.t
  else if s.d = 4 then longI s.a && (s.b == 0) && reckT s.t
  else if s.d = 5 then bareT s.t && (s.a == 0) && (s.b == 0)
  else if s.d = 6 then bareT s.t && belowI s.a 256 && (s.b == 0)
  else (s.d == 7) && bareT s.t && longI s.a && longI s.b

theorem c_below (n m : Int) : CSpec Tryz.prog 160 [.int .i64 n, .int .i64 m] (.bool (belowI n m)) := by
  refine CSpec.of_awp envOf_ok hmix Tryz.func160 rfl (fun args w => Tryz.call160 args w) (by simp [Tryz.f160]) ?_
  simp only [Tryz.f160]
  simp (maxSteps := 2000000) -implicitDefEqProofs only [zz, evop, ev, ofVal, tget, tput, ok, V.isUndef, intBin, guardOf, initT, Ch.on, xport, resOf, resV, resVs, ↓reduceIte, reduceCtorEq, Nat.reduceLT, Nat.reduceEqDiff, nilTest]
  unfold belowI
  by_cases h : n ≥ 0
  · have h' : decide (0 ≤ n) = true := decide_eq_true h
    rw [h', Bool.true_and]
    simp (maxSteps := 2000000) -implicitDefEqProofs only [↓reduceIte, h]
  · have h' : decide (0 ≤ n) = false := decide_eq_false h
    rw [h', Bool.false_and]
    simp (maxSteps := 2000000) -implicitDefEqProofs only [↓reduceIte, h]
theorem c_long (n : Int) : CSpec Tryz.prog 162 [.int .i64 n] (.bool (longI n)) := by
  refine CSpec.of_awp envOf_ok hmix Tryz.func162 rfl (fun args w => Tryz.call162 args w) (by simp [Tryz.f162]) ?_
  simp only [Tryz.f162]
  simp (maxSteps := 2000000) -implicitDefEqProofs only [zz, evop, ev, ofVal, tget, tput, ok, V.isUndef, intBin, guardOf, initT, Ch.on, xport, resOf, resV, resVs, ↓reduceIte, reduceCtorEq, Nat.reduceLT, Nat.reduceEqDiff, nilTest]
  unfold longI
  by_cases h : n ≥ 1
  · have h' : decide (1 ≤ n) = true := decide_eq_true h
    rw [h', Bool.true_and]
    simp (maxSteps := 2000000) -implicitDefEqProofs only [↓reduceIte, h]
  · have h' : decide (1 ≤ n) = false := decide_eq_false h
    rw [h', Bool.false_and]
    simp (maxSteps := 2000000) -implicitDefEqProofs only [↓reduceIte, h]

theorem c_code_may (s : St) (hl : s.t.length ≤ 1000000) : CSpec Tryz.prog 103 [dS s] (.bool (mayS s)) := by
  have hB : ((s.t.length : Int) == 0) = bareT s.t := rfl
  refine CSpec.of_awp envOf_ok hmix Tryz.func103 rfl (fun args w => Tryz.call103 args w) (by simp [Tryz.f103]) ?_
  simp only [Tryz.f103]
  simp (maxSteps := 2000000) -implicitDefEqProofs only [zz, zE, evop, ev, ofVal, tget, tput, ok, V.isUndef, intBin, guardOf, initT, Ch.on, calleeOf, withArgs, told, xport, hget, hput, V.cells, structAt, sliceOf, Blk.width, lenOf, resOf, resV, resVs, ↓reduceIte, reduceCtorEq, Nat.reduceLT, Nat.reduceEqDiff, Nat.reduceAdd, nilTest, dS]
  by_cases h1 : s.d = 1
  · have em : mayS s = (bareT s.t && belowI s.a 8 && belowI s.b 64) := by unfold mayS; rw [if_pos h1]
    rw [em]
    have e1 : (s.d == 1) = true := by simp [h1]
    simp (maxSteps := 2000000) -implicitDefEqProofs only [↓reduceIte, e1, hB]
    cases hb : bareT s.t
    · simp (maxSteps := 2000000) -implicitDefEqProofs only [zz, ↓reduceIte]
    · simp (maxSteps := 2000000) -implicitDefEqProofs only [zz, ↓reduceIte]
      refine acall_flat (by first | rfl | (simp only [xports, xport, hget]; rfl)) (c_below s.a 8) rfl ?_
      try simp (maxSteps := 2000000) -implicitDefEqProofs only [zz, zE, evop, ev, ofVal, tget, tput, ok, V.isUndef, guardOf, Ch.on, calleeOf, withArgs, xport, hget, structAt, Blk.width, resOf, resV, resVs, ↓reduceIte, reduceCtorEq, Nat.reduceLT, Nat.reduceEqDiff, Nat.reduceAdd]
      cases ha : belowI s.a 8
      · simp (maxSteps := 2000000) -implicitDefEqProofs only [zz, ↓reduceIte]
      · simp (maxSteps := 2000000) -implicitDefEqProofs only [zz, ↓reduceIte]
        refine acall_flat (by first | rfl | (simp only [xports, xport, hget]; rfl)) (c_below s.b 64) rfl ?_
        try simp (maxSteps := 2000000) -implicitDefEqProofs only [zz, evop, ev, tget, tput, ok, V.isUndef, Ch.on, xport, resOf, resV, resVs, ↓reduceIte, Nat.reduceLT, Nat.reduceEqDiff]
  have e1 : (s.d == 1) = false := by simp [h1]
  by_cases h2 : s.d = 2
  · have em : mayS s = (belowI s.a 8 && (s.b == 0) && reckT s.t) := by unfold mayS; rw [if_neg h1, if_pos h2]
    rw [em]
    have e2 : (s.d == 2) = true := by simp [h2]
    simp (maxSteps := 2000000) -implicitDefEqProofs only [zz, ↓reduceIte, e1, e2]
    refine acall_flat (by first | rfl | (simp only [xports, xport, hget]; rfl)) (c_below s.a 8) rfl ?_
    try simp (maxSteps := 2000000) -implicitDefEqProofs only [zz, zE, evop, ev, ofVal, tget, tput, ok, V.isUndef, intBin, guardOf, Ch.on, calleeOf, withArgs, xport, hget, structAt, Blk.width, resOf, resV, resVs, ↓reduceIte, reduceCtorEq, Nat.reduceLT, Nat.reduceEqDiff, Nat.reduceAdd, nilTest]
    cases ha : belowI s.a 8
    · simp (maxSteps := 2000000) -implicitDefEqProofs only [zz, ↓reduceIte]
    · simp (maxSteps := 2000000) -implicitDefEqProofs only [zz, ↓reduceIte]
      cases hb : (s.b == 0)
      · simp (maxSteps := 2000000) -implicitDefEqProofs only [zz, ↓reduceIte]
      · simp (maxSteps := 2000000) -implicitDefEqProofs only [zz, ↓reduceIte]
        refine acall_flat (by first | rfl | (simp only [xports, xport, hget]; rfl)) (c_reckons s.t hl) rfl ?_
        try simp (maxSteps := 2000000) -implicitDefEqProofs only [zz, evop, ev, tget, tput, ok, V.isUndef, Ch.on, xport, resOf, resV, resVs, ↓reduceIte, Nat.reduceLT, Nat.reduceEqDiff]
  have e2 : (s.d == 2) = false := by simp [h2]
  by_cases h3 : s.d = 3
  · have em : mayS s = (belowI s.a 64 && (s.b == 0) && reckT s.t) := by unfold mayS; rw [if_neg h1, if_neg h2, if_pos h3]
    rw [em]
    have e3 : (s.d == 3) = true := by simp [h3]
    simp (maxSteps := 2000000) -implicitDefEqProofs only [zz, ↓reduceIte, e1, e2, e3]
    refine acall_flat (by first | rfl | (simp only [xports, xport, hget]; rfl)) (c_below s.a 64) rfl ?_
    try simp (maxSteps := 2000000) -implicitDefEqProofs only [zz, zE, evop, ev, ofVal, tget, tput, ok, V.isUndef, intBin, guardOf, Ch.on, calleeOf, withArgs, xport, hget, structAt, Blk.width, resOf, resV, resVs, ↓reduceIte, reduceCtorEq, Nat.reduceLT, Nat.reduceEqDiff, Nat.reduceAdd, nilTest]
    cases ha : belowI s.a 64
    · simp (maxSteps := 2000000) -implicitDefEqProofs only [zz, ↓reduceIte]
    · simp (maxSteps := 2000000) -implicitDefEqProofs only [zz, ↓reduceIte]
      cases hb : (s.b == 0)
      · simp (maxSteps := 2000000) -implicitDefEqProofs only [zz, ↓reduceIte]
      · simp (maxSteps := 2000000) -implicitDefEqProofs only [zz, ↓reduceIte]
        refine acall_flat (by first | rfl | (simp only [xports, xport, hget]; rfl)) (c_reckons s.t hl) rfl ?_
        try simp (maxSteps := 2000000) -implicitDefEqProofs only [zz, evop, ev, tget, tput, ok, V.isUndef, Ch.on, xport, resOf, resV, resVs, ↓reduceIte, Nat.reduceLT, Nat.reduceEqDiff]
  have e3 : (s.d == 3) = false := by simp [h3]
  by_cases h4 : s.d = 4
  · have em : mayS s = (longI s.a && (s.b == 0) && reckT s.t) := by unfold mayS; rw [if_neg h1, if_neg h2, if_neg h3, if_pos h4]
    rw [em]
    have e4 : (s.d == 4) = true := by simp [h4]
    simp (maxSteps := 2000000) -implicitDefEqProofs only [zz, ↓reduceIte, e1, e2, e3, e4]
    refine acall_flat (by first | rfl | (simp only [xports, xport, hget]; rfl)) (c_long s.a) rfl ?_
    try simp (maxSteps := 2000000) -implicitDefEqProofs only [zz, zE, evop, ev, ofVal, tget, tput, ok, V.isUndef, intBin, guardOf, Ch.on, calleeOf, withArgs, xport, hget, structAt, Blk.width, resOf, resV, resVs, ↓reduceIte, reduceCtorEq, Nat.reduceLT, Nat.reduceEqDiff, Nat.reduceAdd, nilTest]
    cases ha : longI s.a
    · simp (maxSteps := 2000000) -implicitDefEqProofs only [zz, ↓reduceIte]
    · simp (maxSteps := 2000000) -implicitDefEqProofs only [zz, ↓reduceIte]
      cases hb : (s.b == 0)
      · simp (maxSteps := 2000000) -implicitDefEqProofs only [zz, ↓reduceIte]
      · simp (maxSteps := 2000000) -implicitDefEqProofs only [zz, ↓reduceIte]
        refine acall_flat (by first | rfl | (simp only [xports, xport, hget]; rfl)) (c_reckons s.t hl) rfl ?_
        try simp (maxSteps := 2000000) -implicitDefEqProofs only [zz, evop, ev, tget, tput, ok, V.isUndef, Ch.on, xport, resOf, resV, resVs, ↓reduceIte, Nat.reduceLT, Nat.reduceEqDiff]
  have e4 : (s.d == 4) = false := by simp [h4]
  by_cases h5 : s.d = 5
  · have em : mayS s = (bareT s.t && (s.a == 0) && (s.b == 0)) := by unfold mayS; rw [if_neg h1, if_neg h2, if_neg h3, if_neg h4, if_pos h5]
    rw [em]
    have e5 : (s.d == 5) = true := by simp [h5]
    simp (maxSteps := 2000000) -implicitDefEqProofs only [zz, ↓reduceIte, e1, e2, e3, e4, e5, hB]
    cases hb : bareT s.t
    · simp (maxSteps := 2000000) -implicitDefEqProofs only [zz, ↓reduceIte]
    · simp (maxSteps := 2000000) -implicitDefEqProofs only [zz, ↓reduceIte]
      cases ha : (s.a == 0)
      · simp (maxSteps := 2000000) -implicitDefEqProofs only [zz, ↓reduceIte]
      · simp (maxSteps := 2000000) -implicitDefEqProofs only [zz, ↓reduceIte]
  have e5 : (s.d == 5) = false := by simp [h5]
  by_cases h6 : s.d = 6
  · have em : mayS s = (bareT s.t && belowI s.a 256 && (s.b == 0)) := by unfold mayS; rw [if_neg h1, if_neg h2, if_neg h3, if_neg h4, if_neg h5, if_pos h6]
    rw [em]
    have e6 : (s.d == 6) = true := by simp [h6]
    simp (maxSteps := 2000000) -implicitDefEqProofs only [zz, ↓reduceIte, e1, e2, e3, e4, e5, e6, hB]
    cases hb : bareT s.t
    · simp (maxSteps := 2000000) -implicitDefEqProofs only [zz, ↓reduceIte]
    · simp (maxSteps := 2000000) -implicitDefEqProofs only [zz, ↓reduceIte]
      refine acall_flat (by first | rfl | (simp only [xports, xport, hget]; rfl)) (c_below s.a 256) rfl ?_
      try simp (maxSteps := 2000000) -implicitDefEqProofs only [zz, zE, evop, ev, ofVal, tget, tput, ok, V.isUndef, intBin, guardOf, Ch.on, xport, hget, structAt, Blk.width, resOf, resV, resVs, ↓reduceIte, reduceCtorEq, Nat.reduceLT, Nat.reduceEqDiff, Nat.reduceAdd, nilTest]
      cases ha : belowI s.a 256
      · simp (maxSteps := 2000000) -implicitDefEqProofs only [zz, ↓reduceIte]
      · simp (maxSteps := 2000000) -implicitDefEqProofs only [zz, ↓reduceIte]
  have e6 : (s.d == 6) = false := by simp [h6]
  have em : mayS s = ((s.d == 7) && bareT s.t && longI s.a && longI s.b) := by unfold mayS; rw [if_neg h1, if_neg h2, if_neg h3, if_neg h4, if_neg h5, if_neg h6]
  rw [em]
  simp (maxSteps := 2000000) -implicitDefEqProofs only [zz, ↓reduceIte, e1, e2, e3, e4, e5, e6, hB]
  cases h7 : (s.d == 7)
  · simp (maxSteps := 2000000) -implicitDefEqProofs only [zz, ↓reduceIte]
  · simp (maxSteps := 2000000) -implicitDefEqProofs only [zz, ↓reduceIte]
    cases hb : bareT s.t
    · simp (maxSteps := 2000000) -implicitDefEqProofs only [zz, ↓reduceIte]
    · simp (maxSteps := 2000000) -implicitDefEqProofs only [zz, ↓reduceIte]
      refine acall_flat (by first | rfl | (simp only [xports, xport, hget]; rfl)) (c_long s.a) rfl ?_
      try simp (maxSteps := 2000000) -implicitDefEqProofs only [zz, zE, evop, ev, ofVal, tget, tput, ok, V.isUndef, guardOf, Ch.on, calleeOf, withArgs, xport, hget, structAt, Blk.width, resOf, resV, resVs, ↓reduceIte, reduceCtorEq, Nat.reduceLT, Nat.reduceEqDiff, Nat.reduceAdd]
      cases ha : longI s.a
      · simp (maxSteps := 2000000) -implicitDefEqProofs only [zz, ↓reduceIte]
      · simp (maxSteps := 2000000) -implicitDefEqProofs only [zz, ↓reduceIte]
        refine acall_flat (by first | rfl | (simp only [xports, xport, hget]; rfl)) (c_long s.b) rfl ?_
        try simp (maxSteps := 2000000) -implicitDefEqProofs only [zz, evop, ev, tget, tput, ok, V.isUndef, Ch.on, xport, resOf, resV, resVs, ↓reduceIte, Nat.reduceLT, Nat.reduceEqDiff]

theorem c_CheckS (s : St) (hl : s.t.length ≤ 1000000) : CSpec Tryz.prog 102 [dS s] (.bool (!mayS s)) := by
  refine CSpec.of_awp envOf_ok hmix Tryz.func102 rfl (fun args w => Tryz.call102 args w) (by simp [Tryz.f102]) ?_
  simp only [Tryz.f102]
  simp (maxSteps := 2000000) -implicitDefEqProofs only [zz, zE, evop, ev, ofVal, tget, tput, ok, V.isUndef, initT, Ch.on, calleeOf, withArgs, hget, hput, V.cells, ↓reduceIte, Nat.reduceLT, Nat.reduceEqDiff, Nat.reduceAdd, Nat.reduceLeDiff, dS]
  refine acall_flat (by first | rfl | (simp only [xports, xport, hget]; rfl)) (c_code_may s hl) rfl ?_
  try simp (maxSteps := 2000000) -implicitDefEqProofs only [zz, evop, ev, tget, tput, ok, V.isUndef, Ch.on, xport, resOf, resV, resVs, ↓reduceIte, Nat.reduceLT]

theorem c_IndexFunc_S (ns : List St) (f : Nat) (cap : List D) (p : St → Bool) (hl : ns.length ≤ 1000000) (hcap : cap.length ≤ 8) (hp : ∀ n ∈ ns, CSpec Tryz.prog f (dS n :: cap) (.bool (p n))) : CSpec Tryz.prog 159 [.vec (ns.map dS), .func (f, 0) cap] (.int .i64 (idxOf p ns)) := by
  refine CSpec.of_awp envOf_ok hmix Tryz.func159 rfl (fun args w => Tryz.call159 args w) (by simp [Tryz.f159]) ?_
  simp only [Tryz.f159]
  simp (maxSteps := 2000000) -implicitDefEqProofs only [zz, zE, evop, ev, ofVal, tget, tput, ok, V.isUndef, initT, Ch.on, sliceOf, lenOf, ↓reduceIte, reduceCtorEq, Nat.reduceLT, Int.reduceNeg]
  refine wloop_ind (σ := Nat) (fun i => ns.length - i) (fun i => [(8, .d (.int .i64 i)), (7, .d (.int .i64 ns.length)), (4, .d (.int .i64 0)), (0, .d (.vec (ns.map dS))), (1, .d (.func (f, 0) cap))]) (fun _ => []) (fun i => i ≤ ns.length ∧ ∀ j < i, ∀ x, ns[j]? = some x → p x = false) 0 ⟨Nat.zero_le _, fun j hj => by omega⟩ (Weak.sub (by simp [tget])) ?_
  intro i ⟨hi, hb⟩
  rcases Nat.lt_or_ge i ns.length with h | h
  · have hx : ns[i]? = some ns[i] := List.getElem?_eq_getElem h
    have h' : ((i : Int) < (ns.length : Int)) := by omega
    simp (maxSteps := 2000000) -implicitDefEqProofs only [zz, zE, evop, ev, tget, tput, ok, V.isUndef, intBin, Ch.on, calleeOf, withArgs, told, D.cells, loadD, ↓reduceIte, reduceCtorEq, Nat.reduceLT, Nat.reduceEqDiff, Nat.reduceAdd, Nat.reduceLeDiff, Int.reduceNeg, nilTest, dS, h', List.getElem?_map, hx, Option.map_some, Int.natCast_nonneg]
    refine acall_flat (ds := dS ns[i] :: cap) (by simp only [xports, xport, xports_ds cap 39 (by omega), dS]) (hp _ (List.getElem_mem h)) rfl ?_
    simp (maxSteps := 2000000) -implicitDefEqProofs only [zz, evop, ev, ofVal, tget, tput, ok, V.isUndef, intBin, Ch.on, told, xport, resOf, resV, resVs, ↓reduceIte, Nat.reduceLT, Nat.reduceEqDiff, Int.reduceNeg, nilTest]
    split
    · rename_i hpx
      simp [idxOf, findIdx_at h hb hpx]
    · rename_i hpx
      refine ⟨i + 1, ⟨h, fun j hj x hxj => ?_⟩, by omega, Weak.sub ?_⟩
      · rcases Nat.lt_or_ge j i with hji | hji
        · exact hb j hji x hxj
        · have : j = i := by omega
          subst this
          rw [hx] at hxj; cases hxj
          simpa using hpx
      · have hw : IntKind.i64.wrap ((i : Int) + 1) = (i : Int) + 1 := by rw [IntKind.wrap_i64]; omega
        simp [tget, hw]
  · have h' : ¬ ((i : Int) < (ns.length : Int)) := by omega
    simp (maxSteps := 2000000) -implicitDefEqProofs only [zz, evop, ev, ofVal, tget, tput, ok, V.isUndef, intBin, Ch.on, told, xport, resOf, resV, resVs, ↓reduceIte, Nat.reduceLT, Nat.reduceEqDiff, Int.reduceNeg, nilTest, h']
    have : ns.findIdx? p = none := by
      rw [List.findIdx?_eq_none_iff]
      intro x hx
      obtain ⟨j, hj, rfl⟩ := List.getElem_of_mem hx
      simpa using hb j (by omega) _ (List.getElem?_eq_getElem hj)
    simp [idxOf, this]

theorem c_ContainsFunc_S (ns : List St) (f : Nat) (cap : List D) (p : St → Bool) (hl : ns.length ≤ 1000000) (hcap : cap.length ≤ 8) (hp : ∀ n ∈ ns, CSpec Tryz.prog f (dS n :: cap) (.bool (p n))) : CSpec Tryz.prog 101 [.vec (ns.map dS), .func (f, 0) cap] (.bool (ns.any p)) := by
  refine CSpec.of_awp envOf_ok hmix Tryz.func101 rfl (fun args w => Tryz.call101 args w) (by simp [Tryz.f101]) ?_
  simp only [Tryz.f101]
  simp (maxSteps := 2000000) -implicitDefEqProofs only [zz, evop, ev, ofVal, tget, tput, ok, V.isUndef, initT, Ch.on, calleeOf, withArgs, ↓reduceIte, reduceCtorEq, Nat.reduceLT, Nat.reduceEqDiff]
  refine acall_flat (by first | rfl | (simp only [xports, xport, hget]; rfl)) (c_IndexFunc_S ns f cap p hl hcap hp) rfl ?_
  try simp (maxSteps := 2000000) -implicitDefEqProofs only [zz, evop, ev, ofVal, tget, tput, ok, V.isUndef, intBin, Ch.on, xport, resOf, resV, resVs, ↓reduceIte, Nat.reduceLT, nilTest]
  rw [idxOf_nonneg]



theorem c_r08_one (s : St) (hl : s.t.length ≤ 1000000) : CSpec Tryz.prog 106 [dS s] (.bool (mayS s)) := by
  have hB : ((s.t.length : Int) == 0) = bareT s.t := rfl
  refine CSpec.of_awp envOf_ok hmix Tryz.func106 rfl (fun args w => Tryz.call106 args w) (by simp [Tryz.f106]) ?_
  simp only [Tryz.f106]
  simp (maxSteps := 2000000) -implicitDefEqProofs only [zz, zE, evop, ev, ofVal, tget, tput, ok, V.isUndef, initT, Ch.on, calleeOf, withArgs, hget, hput, V.cells, structAt, Blk.width, ↓reduceIte, reduceCtorEq, Nat.reduceLT, Nat.reduceEqDiff, Nat.reduceAdd, dS]
  refine acall_flat (by first | rfl | (simp only [xports, xport, hget]; rfl)) (c_r08_reckons s.t hl) rfl ?_
  try simp (maxSteps := 2000000) -implicitDefEqProofs only [zz, zE, evop, ev, ofVal, tget, tput, ok, V.isUndef, intBin, guardOf, Ch.on, told, xport, hget, structAt, sliceOf, Blk.width, lenOf, resOf, resV, resVs, ↓reduceIte, reduceCtorEq, Nat.reduceLT, Nat.reduceEqDiff, Nat.reduceAdd, nilTest]
  have lg : ∀ n : Int, longI n = (decide (n ≥ 1) && decide (n ≤ 24)) := fun n => rfl
  have bw : ∀ n m : Int, belowI n (m + 1) = (decide (n ≥ 0) && decide (n ≤ m)) := fun n m => by
    unfold belowI; congr 1; rw [Bool.eq_iff_iff]; simp; omega
  have b8 : ∀ n : Int, belowI n 8 = (decide (n ≥ 0) && decide (n ≤ 7)) := fun n => bw n 7
  have b64 : ∀ n : Int, belowI n 64 = (decide (n ≥ 0) && decide (n ≤ 63)) := fun n => bw n 63
  have b256 : ∀ n : Int, belowI n 256 = (decide (n ≥ 0) && decide (n ≤ 255)) := fun n => bw n 255
  by_cases h1 : s.d = 1
  · have em : mayS s = (bareT s.t && belowI s.a 8 && belowI s.b 64) := by unfold mayS; rw [if_pos h1]
    rw [em, b8, b64]
    have e1 : (s.d == 1) = true := by simp [h1]
    simp (maxSteps := 2000000) -implicitDefEqProofs only [zz, ↓reduceIte, e1, hB]
    cases bareT s.t <;> (try simp (maxSteps := 2000000) -implicitDefEqProofs only [zz, ↓reduceIte]) <;> by_cases q1 : s.a ≥ 0 <;> by_cases q2 : s.a ≤ 7 <;> by_cases q3 : s.b ≥ 0 <;> simp [q1, q2, q3]
  have e1 : (s.d == 1) = false := by simp [h1]
  by_cases h2 : s.d = 2
  · have em : mayS s = (belowI s.a 8 && (s.b == 0) && reckT s.t) := by unfold mayS; rw [if_neg h1, if_pos h2]
    rw [em, b8]
    have e2 : (s.d == 2) = true := by simp [h2]
    simp (maxSteps := 2000000) -implicitDefEqProofs only [zz, ↓reduceIte, e1, e2]
    cases reckT s.t <;> cases (s.b == 0) <;> (try simp (maxSteps := 2000000) -implicitDefEqProofs only [zz, ↓reduceIte]) <;> by_cases q1 : s.a ≥ 0 <;> by_cases q2 : s.a ≤ 7 <;> simp [q1, q2]
  have e2 : (s.d == 2) = false := by simp [h2]
  by_cases h3 : s.d = 3
  · have em : mayS s = (belowI s.a 64 && (s.b == 0) && reckT s.t) := by unfold mayS; rw [if_neg h1, if_neg h2, if_pos h3]
    rw [em, b64]
    have e3 : (s.d == 3) = true := by simp [h3]
    simp (maxSteps := 2000000) -implicitDefEqProofs only [zz, ↓reduceIte, e1, e2, e3]
    cases reckT s.t <;> cases (s.b == 0) <;> (try simp (maxSteps := 2000000) -implicitDefEqProofs only [zz, ↓reduceIte]) <;> by_cases q1 : s.a ≥ 0 <;> by_cases q2 : s.a ≤ 63 <;> simp [q1, q2]
  have e3 : (s.d == 3) = false := by simp [h3]
  by_cases h4 : s.d = 4
  · have em : mayS s = (longI s.a && (s.b == 0) && reckT s.t) := by unfold mayS; rw [if_neg h1, if_neg h2, if_neg h3, if_pos h4]
    rw [em, lg]
    have e4 : (s.d == 4) = true := by simp [h4]
    simp (maxSteps := 2000000) -implicitDefEqProofs only [zz, ↓reduceIte, e1, e2, e3, e4]
    cases reckT s.t <;> cases (s.b == 0) <;> (try simp (maxSteps := 2000000) -implicitDefEqProofs only [zz, ↓reduceIte]) <;> by_cases q1 : s.a ≥ 1 <;> by_cases q2 : s.a ≤ 24 <;> simp [q1, q2]
  have e4 : (s.d == 4) = false := by simp [h4]
  by_cases h5 : s.d = 5
  · have em : mayS s = (bareT s.t && (s.a == 0) && (s.b == 0)) := by unfold mayS; rw [if_neg h1, if_neg h2, if_neg h3, if_neg h4, if_pos h5]
    rw [em]
    have e5 : (s.d == 5) = true := by simp [h5]
    simp (maxSteps := 2000000) -implicitDefEqProofs only [zz, ↓reduceIte, e1, e2, e3, e4, e5, hB]
    cases bareT s.t <;> cases (s.a == 0) <;> cases (s.b == 0) <;> (try simp (maxSteps := 2000000) -implicitDefEqProofs only [zz, ↓reduceIte])
  have e5 : (s.d == 5) = false := by simp [h5]
  by_cases h6 : s.d = 6
  · have em : mayS s = (bareT s.t && belowI s.a 256 && (s.b == 0)) := by unfold mayS; rw [if_neg h1, if_neg h2, if_neg h3, if_neg h4, if_neg h5, if_pos h6]
    rw [em, b256]
    have e6 : (s.d == 6) = true := by simp [h6]
    simp (maxSteps := 2000000) -implicitDefEqProofs only [zz, ↓reduceIte, e1, e2, e3, e4, e5, e6, hB]
    cases bareT s.t <;> cases (s.b == 0) <;> (try simp (maxSteps := 2000000) -implicitDefEqProofs only [zz, ↓reduceIte]) <;> by_cases q1 : s.a ≥ 0 <;> by_cases q2 : s.a ≤ 255 <;> simp [q1, q2]
  have e6 : (s.d == 6) = false := by simp [h6]
  have em : mayS s = ((s.d == 7) && bareT s.t && longI s.a && longI s.b) := by unfold mayS; rw [if_neg h1, if_neg h2, if_neg h3, if_neg h4, if_neg h5, if_neg h6]
  rw [em, lg, lg]
  simp (maxSteps := 2000000) -implicitDefEqProofs only [zz, ↓reduceIte, e1, e2, e3, e4, e5, e6, hB]
  cases (s.d == 7) <;> cases bareT s.t <;> (try simp (maxSteps := 2000000) -implicitDefEqProofs only [zz, ↓reduceIte]) <;> by_cases q1 : s.a ≥ 1 <;> by_cases q2 : s.a ≤ 24 <;> by_cases q3 : s.b ≥ 1 <;> by_cases q4 : s.b ≤ 24 <;> simp [q1, q2, q3, q4]
end Go.Proofs.YtjhfpabldidlgaaGreat.AM

/- Codes: are they well. -/
set_option linter.all false
set_option maxRecDepth 100000
set_option maxHeartbeats 4000000
namespace Go.Proofs.YtjhfpabldidlgaaGreat.AM
open Go Go.RowKit

/-- How deep, and: is it well? -/
def wellW : List St → Int × Bool
  | [] => (0, true)
  | s :: r =>
    if s.d = 4 ∧ s.a > (r.length : Int) then (0, false)
    else if s.d ≠ 7 then wellW r
    else if s.a + s.b > (r.length : Int) then (0, false)
    else (max (max (wellW (r.drop (s.a + s.b).toNat)).1 (1 + (wellW (r.take s.a.toNat)).1)) (1 + (wellW ((r.drop s.a.toNat).take s.b.toNat)).1),
      (wellW (r.take s.a.toNat)).2 && (wellW ((r.drop s.a.toNat).take s.b.toNat)).2 && (wellW (r.drop (s.a + s.b).toNat)).2)
termination_by l => l.length
decreasing_by all_goals (simp only [List.length_cons, List.length_drop, List.length_take]; omega)

def dpW (l : List St) : Int := if (wellW l).2 then (wellW l).1 else -1

theorem mayS_rng {s : St} (h : mayS s = true) : (s.d = 4 → 1 ≤ s.a ∧ s.a ≤ 24) ∧ (s.d = 7 → 1 ≤ s.a ∧ s.a ≤ 24 ∧ 1 ≤ s.b ∧ s.b ≤ 24) := by
  constructor
  · intro e
    unfold mayS longI at h
    rw [e] at h
    simp at h
    omega
  · intro e
    unfold mayS longI at h
    rw [e] at h
    simp at h
    omega

theorem wellW_rng : ∀ (n : Nat) (l : List St), l.length ≤ n → (∀ s ∈ l, mayS s = true) → 0 ≤ (wellW l).1 ∧ (wellW l).1 ≤ l.length
  | n, [], _, _ => by simp [wellW]
  | n + 1, s :: r, hn, hm => by
    have hs := mayS_rng (hm s (by simp))
    have hr : ∀ x ∈ r, mayS x = true := fun x hx => hm x (by simp [hx])
    simp only [List.length_cons] at hn
    rw [wellW]
    split
    · simp; omega
    · split
      · have := wellW_rng n r (by omega) hr
        simp only [List.length_cons]; omega
      · rename_i h7
        have h7' : s.d = 7 := by omega
        obtain ⟨a1, a2, b1, b2⟩ := hs.2 h7'
        split
        · simp; omega
        · have i1 := wellW_rng n (r.drop (s.a + s.b).toNat) (by simp; omega) (fun x hx => hr x (List.mem_of_mem_drop hx))
          have i2 := wellW_rng n (r.take s.a.toNat) (by simp; omega) (fun x hx => hr x (List.mem_of_mem_take hx))
          have i3 := wellW_rng n ((r.drop s.a.toNat).take s.b.toNat) (by simp; omega) (fun x hx => hr x (List.mem_of_mem_drop (List.mem_of_mem_take hx)))
          simp only [List.length_drop, List.length_take] at i1 i2 i3
          simp only [List.length_cons]
          omega

theorem okCells_S (l : List St) : ∀ e ∈ l.map dS, (match e with
    | D.agg cs => cs
    | x => [x]).length = 4 := by
  intro e he
  obtain ⟨x, _, rfl⟩ := List.mem_map.1 he
  rfl

theorem c_deep : ∀ (N : Nat) (l : List St), l.length ≤ N → l.length ≤ 1000000 → (∀ s ∈ l, mayS s = true) → CSpec Tryz.prog 104 [.vec (l.map dS)] (.int .i64 (dpW l)) := by
  intro N
  induction N with
  | zero =>
    intro l hN hl hm
    obtain rfl : l = [] := List.eq_nil_of_length_eq_zero (by omega)
    have e : dpW [] = 0 := by simp [dpW, wellW]
    rw [e]
    refine CSpec.of_awp envOf_ok hmix Tryz.func104 rfl (fun args w => Tryz.call104 args w) (by simp [Tryz.f104]) ?_
    simp only [Tryz.f104]
    simp (maxSteps := 2000000) -implicitDefEqProofs only [zz, evop, ev, ofVal, tput, ok, V.isUndef, initT, Ch.on, ↓reduceIte, Nat.reduceLT, Int.reduceNeg]
    refine wloop_ind (σ := Nat) (fun i => 0) (fun i => [(4, .d (.int .i64 0)), (3, .d (.int .i64 0)), (0, .d (.vec []))]) (fun _ => []) (fun i => True) 0 trivial (Weak.sub (by simp [tget])) ?_
    intro i hi
    have h' : ¬ ((0 : Int) < 0) := by omega
    simp (maxSteps := 2000000) -implicitDefEqProofs only [zz, zE, evop, ev, tget, tput, ok, V.isUndef, intBin, Ch.on, told, xport, sliceOf, lenOf, resOf, resV, resVs, ↓reduceIte, reduceCtorEq, Nat.reduceLT, Nat.reduceEqDiff, Int.reduceNeg, nilTest, h']
  | succ N ih =>
    intro l hN hl hm
    refine CSpec.of_awp envOf_ok hmix Tryz.func104 rfl (fun args w => Tryz.call104 args w) (by simp [Tryz.f104]) ?_
    simp only [Tryz.f104]
    simp (maxSteps := 2000000) -implicitDefEqProofs only [zz, evop, ev, ofVal, tput, ok, V.isUndef, initT, Ch.on, ↓reduceIte, Nat.reduceLT, Int.reduceNeg]
    refine wloop_ind (σ := Nat × Int) (fun s => l.length - s.1) (fun s => [(4, .d (.int .i64 s.1)), (3, .d (.int .i64 s.2)), (0, .d (.vec (l.map dS)))]) (fun _ => []) (fun s => s.1 ≤ l.length ∧ 0 ≤ s.2 ∧ s.2 ≤ 1000001 ∧ dpW l = if (wellW (l.drop s.1)).2 then max s.2 (wellW (l.drop s.1)).1 else -1) (0, 0) ⟨Nat.zero_le _, by omega, by omega, ?_⟩ (Weak.sub (by simp [tget])) ?_
    · have := wellW_rng _ l (Nat.le_refl _) hm
      show dpW l = if (wellW (l.drop 0)).2 then max 0 (wellW (l.drop 0)).1 else -1
      rw [List.drop_zero]; unfold dpW; split <;> omega
    · rintro ⟨i, out⟩ ⟨hi, h0, h1, hd⟩
      simp only at hi h0 h1 hd
      rcases Nat.lt_or_ge i l.length with hlt | hge
      · have hx : l[i]? = some l[i] := List.getElem?_eq_getElem hlt
        have h' : ((i : Int) < (l.length : Int)) := by omega
        have hw : IntKind.i64.wrap ((i : Int) + 1) = ((i + 1 : Nat) : Int) := by rw [wrap_in (by omega)]; omega
        have hms := mayS_rng (hm _ (List.getElem_mem hlt))
        have hdr : l.drop i = l[i] :: l.drop (i + 1) := List.drop_eq_getElem_cons hlt
        rw [hdr, wellW] at hd
        obtain ⟨r, hr⟩ : ∃ r, r = l.drop (i + 1) := ⟨_, rfl⟩
        have hrl : r.length = l.length - (i + 1) := by rw [hr]; simp
        rw [← hr] at hd
        obtain ⟨s, hs⟩ : ∃ s, s = l[i] := ⟨_, rfl⟩
        rw [← hs] at hd hms hx
        simp (maxSteps := 2000000) -implicitDefEqProofs only [zz, zE, evop, ev, tget, tput, ok, V.isUndef, intBin, Ch.on, told, sliceOf, lenOf, ↓reduceIte, reduceCtorEq, Nat.reduceLT, Nat.reduceEqDiff, Int.reduceNeg, nilTest, h']
        refine wdraw_plan [⟨[], false, [5, 16, 19, 20, 21, 22], [], false⟩, ⟨[], false, [5, 15, 19, 20, 21, 22], [0], false⟩, ⟨[0, 1], false, [5, 19, 20, 21, 22], [], false⟩, ⟨[0, 1, 2], false, [5, 19, 20, 21, 22], [], false⟩, ⟨[], false, [5, 6, 15, 16, 17, 18, 19, 20, 21, 22], [0, 1, 2, 3], true⟩, ⟨[], false, [5, 6, 15, 16, 17, 18, 19, 20, 21, 22], [0, 1, 2, 3, 4], true⟩, ⟨[5], false, [5, 6, 15, 16, 17, 18, 19, 21, 22], [0, 1, 2, 3, 4], true⟩, ⟨[4, 5, 6], false, [5, 6, 15, 16, 17, 18, 22], [0, 1, 2, 3], true⟩, ⟨[], false, [15, 16, 17, 18, 19, 20, 21, 22], [0, 1, 2, 3, 4, 5, 6, 7], false⟩, ⟨[0, 1, 2, 3, 8], true, [19, 20, 21, 22], [], false⟩, ⟨[0, 1, 2, 3, 4, 5, 6, 7, 8, 9], true, [], [], false⟩] (by decide) ?_
        have er : List.take ((l.length : Int) - ((i + 1 : Nat) : Int)).toNat (List.drop (i + 1) (List.map dS l)) = r.map dS := by
          rw [List.take_of_length_le (by simp; omega), hr, List.map_drop]
        simp (maxSteps := 2000000) -implicitDefEqProofs only [zz, zE, evop, ev, ofVal, tget, tput, ok, V.isUndef, intBin, guardOf, Ch.on, told, xport, hget, hput, V.cells, D.cells, V.isAgg, V.one, loadD, structAt, sliceOf, bound, Blk.width, lenOf, splice, D.over, resOf, resV, resVs, ↓reduceIte, reduceCtorEq, Nat.reduceLT, Nat.reduceEqDiff, Nat.reduceAdd, Nat.reduceLeDiff, Int.reduceNeg, nilTest, dS, hw, List.getElem?_map, hx, Option.map_some, Int.natCast_nonneg, er]
        refine ⟨⟨by omega, Int.le_refl _, okCells_S l⟩, ?_⟩
        have hmr : ∀ x ∈ r, mayS x = true := fun x hx => hm x (by rw [hr] at hx; exact List.mem_of_mem_drop hx)
        have hwr := wellW_rng _ r (Nat.le_refl _) hmr
        by_cases h7 : s.d = 7
        case neg =>
          have e7 : (s.d != 7) = true := by simpa using h7
          by_cases h4 : s.d = 4 ∧ s.a > (r.length : Int)
          · rw [if_pos h4] at hd
            have e4 : (s.d == 4) = true := by simp [h4.1]
            have hd' : dpW l = -1 := by rw [hd]; simp
            rw [hd']
            simp (maxSteps := 2000000) -implicitDefEqProofs only [↓reduceIte, Int.reduceNeg, e7, e4, h4.2]
          · rw [if_neg h4, if_pos h7] at hd
            by_cases h44 : s.d = 4
            · have e4 : (s.d == 4) = true := by simp [h44]
              have e5 : ¬ (s.a > (r.length : Int)) := fun h => h4 ⟨h44, h⟩
              simp (maxSteps := 2000000) -implicitDefEqProofs only [zz, ↓reduceIte, Int.reduceNeg, e7, e4, e5]
              exact ⟨(i + 1, out), ⟨hlt, h0, h1, by rw [hd, hr]⟩, by omega, Weak.trims 0 rfl (by simp [tget, V.lower]) (by simp)⟩
            · have e4 : (s.d == 4) = false := by simp [h44]
              simp (maxSteps := 2000000) -implicitDefEqProofs only [zz, ↓reduceIte, Int.reduceNeg, e7, e4]
              exact ⟨(i + 1, out), ⟨hlt, h0, h1, by rw [hd, hr]⟩, by omega, Weak.trims 0 rfl (by simp [tget, V.lower]) (by simp)⟩
        have e7 : (s.d != 7) = false := by simp [h7]
        obtain ⟨a1, a2, b1, b2⟩ := hms.2 h7
        have hab : IntKind.i64.wrap (s.a + s.b) = s.a + s.b := by rw [wrap_in (by omega)]
        have n4 : ¬ (s.d = 4 ∧ s.a > (r.length : Int)) := fun h => by omega
        have n7 : ¬ (s.d ≠ 7) := by omega
        rw [if_neg n4, if_neg n7] at hd
        by_cases hf : s.a + s.b > (r.length : Int)
        · rw [if_pos hf] at hd
          have hd' : dpW l = -1 := by rw [hd]; simp
          rw [hd']
          simp (maxSteps := 2000000) -implicitDefEqProofs only [zz, ↓reduceIte, Int.reduceNeg, e7, hab, hf]
        rw [if_neg hf] at hd
        simp (maxSteps := 2000000) -implicitDefEqProofs only [zz, ↓reduceIte, Int.reduceNeg, e7, hab, hf]
        refine wdraw_plan [⟨[], false, [45, 46, 49, 50, 51, 52, 53, 54, 55, 56, 57], [], false⟩, ⟨[], false, [44, 49, 50, 51, 52, 53, 54, 55, 56, 57], [0], false⟩, ⟨[1], false, [44, 49, 50, 51, 52, 53, 54, 55, 56, 57], [0], false⟩, ⟨[0, 1, 2], false, [49, 50, 51, 52, 53, 54, 55, 56, 57], [], false⟩, ⟨[0, 1, 2, 3], false, [49, 50, 51, 52, 53, 54, 55, 56, 57], [], false⟩, ⟨[], false, [44, 45, 46, 47, 48, 50, 51, 52, 53, 54, 55, 56], [0, 1, 2, 3, 4], false⟩, ⟨[], false, [44, 45, 46, 47, 48, 49, 52, 53, 54, 55, 56], [0, 1, 2, 3, 4, 5], false⟩, ⟨[6], false, [44, 45, 46, 47, 48, 49, 52, 53, 54, 55, 56], [0, 1, 2, 3, 4, 5], false⟩, ⟨[], false, [44, 45, 46, 47, 48, 49, 50, 51, 54, 55], [0, 1, 2, 3, 4, 5, 6, 7], false⟩, ⟨[8], false, [44, 45, 46, 47, 48, 49, 50, 51, 54, 55], [0, 1, 2, 3, 4, 5, 6, 7], false⟩, ⟨[], false, [44, 45, 46, 47, 48, 49, 50, 51, 52, 53], [0, 1, 2, 3, 4, 5, 6, 7, 8, 9], false⟩, ⟨[10], false, [44, 45, 46, 47, 48, 49, 50, 51, 52, 53], [0, 1, 2, 3, 4, 5, 6, 7, 8, 9], false⟩, ⟨[8, 9, 10, 11], false, [44, 45, 46, 47, 48, 49, 50, 51], [0, 1, 2, 3, 4, 5, 6, 7], false⟩, ⟨[5, 6, 7, 8, 9, 10, 11, 12], false, [44, 45, 46, 47, 48], [0, 1, 2, 3, 4], false⟩, ⟨[0, 1, 2, 3, 4, 5, 6, 7, 8, 9, 10, 11, 12, 13], true, [], [], false⟩, ⟨[0, 1, 2, 3, 4, 5, 6, 7, 8, 9, 10, 11, 12, 13, 14], true, [], [], false⟩, ⟨[0, 1, 2, 3, 4, 5, 6, 7, 8, 9, 10, 11, 12, 13, 14, 15], true, [], [], false⟩] (by decide) ?_
        obtain ⟨ra, hra⟩ : ∃ ra, ra = r.take s.a.toNat := ⟨_, rfl⟩
        obtain ⟨rb, hrb⟩ : ∃ rb, rb = (r.drop s.a.toNat).take s.b.toNat := ⟨_, rfl⟩
        obtain ⟨rc, hrc⟩ : ∃ rc, rc = r.drop (s.a + s.b).toNat := ⟨_, rfl⟩
        rw [← hra, ← hrb, ← hrc] at hd
        have la : (ra.length : Int) = s.a := by rw [hra]; simp; omega
        have lb : (rb.length : Int) = s.b := by rw [hrb]; simp; omega
        have e1 : List.take (s.a - 0).toNat (List.map dS r) = ra.map dS := by rw [hra, List.map_take, Int.sub_zero]
        have e2 : List.take (s.a + s.b - s.a).toNat (List.drop s.a.toNat (List.map dS r)) = rb.map dS := by
          rw [hrb, List.map_take, List.map_drop, show s.a + s.b - s.a = s.b by omega]
        have ma : ∀ x ∈ ra, mayS x = true := fun x hx => hmr x (by rw [hra] at hx; exact List.mem_of_mem_take hx)
        have mb : ∀ x ∈ rb, mayS x = true := fun x hx => hmr x (by rw [hrb] at hx; exact List.mem_of_mem_drop (List.mem_of_mem_take hx))
        have wa := wellW_rng _ ra (Nat.le_refl _) ma
        have wb := wellW_rng _ rb (Nat.le_refl _) mb
        have hwi : IntKind.i64.wrap ((i : Int) + (s.a + s.b)) = (i : Int) + (s.a + s.b) := by rw [wrap_in (by omega)]
        have hwj : IntKind.i64.wrap ((i : Int) + (s.a + s.b) + 1) = ((i + 1 + (s.a + s.b).toNat : Nat) : Int) := by rw [wrap_in (by omega)]; omega
        simp (maxSteps := 2000000) -implicitDefEqProofs only [zz, zE, evop, ev, ofVal, tget, tput, ok, V.isUndef, intBin, calleeOf, withArgs, hget, hput, V.cells, D.cells, V.isAgg, loadD, structAt, sliceOf, bound, Blk.width, lenOf, ↓reduceIte, reduceCtorEq, Nat.reduceLT, Nat.reduceEqDiff, Nat.reduceAdd, Nat.reduceLeDiff, Int.reduceNeg, hab, e1, e2]
        refine ⟨⟨Int.le_refl _, by omega, by omega, okCells_S r⟩, ?_⟩
        refine dcall_flat (by first | rfl | (simp only [xports, xport, hget]; rfl)) (ih ra (by omega) (by omega) ma) rfl ?_
        try skip
        refine ⟨⟨by omega, by omega, by omega, okCells_S r⟩, ?_⟩
        refine acall_flat (by first | rfl | (simp only [xports, xport, hget]; rfl)) (ih rb (by omega) (by omega) mb) rfl ?_
        try simp (maxSteps := 2000000) -implicitDefEqProofs only [zz, zE, evop, ev, ofVal, tget, tput, ok, V.isUndef, intBin, guardOf, Ch.on, told, xport, hget, structAt, Blk.width, resOf, resV, resVs, ↓reduceIte, reduceCtorEq, Nat.reduceLT, Nat.reduceEqDiff, Nat.reduceAdd, Int.reduceNeg, nilTest]
        have ja : (wellW ra).2 = true → dpW ra = (wellW ra).1 := fun h => by unfold dpW; rw [if_pos h]
        have jb : (wellW rb).2 = true → dpW rb = (wellW rb).1 := fun h => by unfold dpW; rw [if_pos h]
        have ja' : (wellW ra).2 = false → dpW ra = -1 := fun h => by unfold dpW; rw [if_neg (by simp [h])]
        have jb' : (wellW rb).2 = false → dpW rb = -1 := fun h => by unfold dpW; rw [if_neg (by simp [h])]
        cases ha : (wellW ra).2 with
        | false =>
          have n1 : dpW ra < 0 := by rw [ja' ha]; omega
          have hd' : dpW l = -1 := by rw [hd, ha]; simp
          rw [hd']
          simp (maxSteps := 2000000) -implicitDefEqProofs only [zz, ↓reduceIte, Int.reduceNeg, n1]
        | true =>
        have n1 : ¬ dpW ra < 0 := by rw [ja ha]; omega
        cases hb : (wellW rb).2 with
        | false =>
          have n2 : dpW rb < 0 := by rw [jb' hb]; omega
          have hd' : dpW l = -1 := by rw [hd, ha, hb]; simp
          rw [hd']
          simp (maxSteps := 2000000) -implicitDefEqProofs only [zz, ↓reduceIte, Int.reduceNeg, n1, n2]
        | true =>
        have n2 : ¬ dpW rb < 0 := by rw [jb hb]; omega
        have n1' : ¬ (wellW ra).1 < 0 := by omega
        have n2' : ¬ (wellW rb).1 < 0 := by omega
        obtain ⟨M, hM⟩ : ∃ M, M = if (wellW ra).1 < (wellW rb).1 then (wellW rb).1 else (wellW ra).1 := ⟨_, rfl⟩
        have hMr : 0 ≤ M ∧ M ≤ 1000000 := by rw [hM]; split <;> omega
        have hwm : IntKind.i64.wrap (1 + M) = 1 + M := by rw [wrap_in (by omega)]
        simp (maxSteps := 2000000) -implicitDefEqProofs only [zz, ↓reduceIte, Int.reduceNeg, n1', n2', ja ha, jb hb, hab, hwi, hwj, hM.symm, hwm]
        have hrc2 : rc = l.drop (i + 1 + (s.a + s.b).toNat) := by rw [hrc, hr, List.drop_drop]
        have hMx : 1 + M = max (1 + (wellW ra).1) (1 + (wellW rb).1) := by rw [hM]; split <;> omega
        refine ⟨(i + 1 + (s.a + s.b).toNat, if out < 1 + M then 1 + M else out), ⟨by simp only; omega, ?_, ?_, ?_⟩, by simp only; omega, ?_⟩
        · simp only; split <;> omega
        · simp only; split <;> omega
        · simp only
          rw [hd, ha, hb, ← hrc2]
          simp only [Bool.true_and]
          (repeat' split) <;> omega
        · exact Weak.trims 0 rfl (by simp [tget, V.lower]) (by simp)
      · have h' : ¬ ((i : Int) < (l.length : Int)) := by omega
        have : l.drop i = [] := List.drop_eq_nil_of_le hge
        rw [this] at hd
        simp only [wellW, if_true] at hd
        have e : dpW l = out := by rw [hd]; omega
        rw [e]
        simp (maxSteps := 2000000) -implicitDefEqProofs only [zz, zE, evop, ev, tget, tput, ok, V.isUndef, intBin, Ch.on, told, xport, sliceOf, lenOf, resOf, resV, resVs, ↓reduceIte, reduceCtorEq, Nat.reduceLT, Nat.reduceEqDiff, Int.reduceNeg, nilTest, h']

def codeC (c : List St) : Int := if c.length > 24 ∨ (c.any fun s => !mayS s) = true then 1 else if (wellW c).2 = false then 2 else if (wellW c).1 > 6 then 5 else 0

theorem c_code_Check (c : List St) (hl : c.length ≤ 1000000) (ht : ∀ s ∈ c, s.t.length ≤ 1000000) : CSpec Tryz.prog 52 [.vec (c.map dS)] (.int .i64 (codeC c)) := by
  refine CSpec.of_awp envOf_ok hmix Tryz.func52 rfl (fun args w => Tryz.call52 args w) (by simp [Tryz.f52]) ?_
  simp only [Tryz.f52]
  simp (maxSteps := 2000000) -implicitDefEqProofs only [zz, zE, evop, ev, ofVal, tget, tput, ok, V.isUndef, intBin, guardOf, initT, Ch.on, calleeOf, withArgs, told, xport, sliceOf, lenOf, resOf, resV, resVs, ↓reduceIte, reduceCtorEq, Nat.reduceLT, Nat.reduceEqDiff, nilTest]
  by_cases h1 : ((c.length : Int) > 24)
  · have e : codeC c = 1 := by unfold codeC; rw [if_pos (.inl (by omega))]
    rw [e]
    simp (maxSteps := 2000000) -implicitDefEqProofs only [zz, ↓reduceIte, h1]
  simp (maxSteps := 2000000) -implicitDefEqProofs only [zz, ↓reduceIte, h1]
  refine acall_flat (by first | rfl | (simp only [xports, xport, hget]; rfl)) (c_ContainsFunc_S c _ [] (fun s => !mayS s) hl (by decide) (fun s hs => c_CheckS s (ht s hs))) rfl ?_
  try simp (maxSteps := 2000000) -implicitDefEqProofs only [zz, evop, ev, ofVal, tget, tput, ok, V.isUndef, Ch.on, calleeOf, withArgs, told, xport, resOf, resV, resVs, ↓reduceIte, reduceCtorEq, Nat.reduceLT, Nat.reduceEqDiff]
  cases h2 : c.any fun s => !mayS s with
  | true =>
    have e : codeC c = 1 := by unfold codeC; rw [if_pos (.inr h2)]
    rw [e]
    simp (maxSteps := 2000000) -implicitDefEqProofs only [↓reduceIte]
  | false =>
  have hm : ∀ s ∈ c, mayS s = true := fun s hs => by
    have := List.any_eq_false.1 h2 s hs
    simpa using this
  have hw := wellW_rng _ c (Nat.le_refl _) hm
  simp (maxSteps := 2000000) -implicitDefEqProofs only [zz, ↓reduceIte]
  refine acall_flat (by first | rfl | (simp only [xports, xport, hget]; rfl)) (c_deep _ c (Nat.le_refl _) hl hm) rfl ?_
  try simp (maxSteps := 2000000) -implicitDefEqProofs only [zz, evop, ev, ofVal, tget, tput, ok, V.isUndef, intBin, Ch.on, told, xport, resOf, resV, resVs, ↓reduceIte, Nat.reduceLT, Nat.reduceEqDiff, nilTest]
  have e0 : codeC c = if (wellW c).2 = false then 2 else if (wellW c).1 > 6 then 5 else 0 := by
    unfold codeC; rw [if_neg]; rintro (h | h)
    · omega
    · rw [h2] at h; cases h
  cases h3 : (wellW c).2 with
  | false =>
    have e : codeC c = 2 := by rw [e0, if_pos h3]
    have ed : dpW c = -1 := by unfold dpW; rw [if_neg (by simp [h3])]
    rw [e, ed]
    have n1 : ((-1 : Int) < 0) := by omega
    simp (maxSteps := 2000000) -implicitDefEqProofs only [↓reduceIte, Int.reduceNeg, n1]
  | true =>
    have ed : dpW c = (wellW c).1 := by unfold dpW; rw [if_pos h3]
    have n1 : ¬ ((wellW c).1 < 0) := by omega
    rw [ed]
    by_cases h4 : (wellW c).1 > 6
    · have e : codeC c = 5 := by rw [e0, if_neg (by simp [h3]), if_pos h4]
      rw [e]
      simp (maxSteps := 2000000) -implicitDefEqProofs only [↓reduceIte, n1, h4]
    · have e : codeC c = 0 := by rw [e0, if_neg (by simp [h3]), if_neg h4]
      rw [e]
      simp (maxSteps := 2000000) -implicitDefEqProofs only [↓reduceIte, n1, h4]
end Go.Proofs.YtjhfpabldidlgaaGreat.AM

/- writes.Get: the iterator slices.Backward over a log's writes. -/
set_option linter.all false
namespace Go.Proofs.YtjhfpabldidlgaaGreat.AM
open Go Go.RowKit Go.Shelf

attribute [local go_sem] Oper.semAt_some

/-- What has come when k rounds are over. -/
def upto {α : Type} (f : Nat → α) (k : Nat) : List α := (List.range k).map f
theorem upto_succ {α : Type} (f : Nat → α) (k : Nat) : upto f (k + 1) = upto f k ++ [f k] := by simp [upto, List.range_succ]
theorem upto_length {α : Type} (f : Nat → α) (k : Nat) : (upto f k).length = k := by simp [upto]

/-- The j-th from the end. -/
def bk (zs : List (Int × Int)) (len : Nat) (j : Nat) : Int × (Int × Int) := (((len : Int) - 1 - j), (zs[len - 1 - j]?).getD (0, 0))

set_option maxRecDepth 100000 in
set_option maxHeartbeats 2000000 in
theorem back1_in (F : Fence) (n : Nat) (hF : ∀ f, F.fn f) (hro : F.round = none) (hn : 1 ≤ n) (l Bs n₀ b off len cap : Nat) (zs : List (Int × Int)) (hreach : len ≤ 1000000) (hb : b < n₀) (J Jx : List (Int × (Int × Int)) → World → Prop)
    (hY : ∀ pre x W, J pre W → pre.length < len → YieldAt F (n - 1) Tryz.prog l #[.int .i64 x.1, .agg #[.int .i64 x.2.1, .int .i64 x.2.2]] W fun e W' =>
      (e = .returned (.bool true) ∧ J (pre ++ [x]) W' ∧ Below n₀ W W') ∨ (e = .returned (.bool false) ∧ Jx (pre ++ [x]) W'))
    (W : World) (hBs : W.cell? ⟨Bs, 0, none⟩ = some (.slice (some ⟨b, off, none⟩) len cap)) (hBn : Bs < n₀)
    (hc : ∀ j, j < len → W.cell? ⟨b, off + (j * 2), none⟩ = some (.int .i64 ((zs[j]?).getD (0, 0)).1) ∧ W.cell? ⟨b, off + (j * 2) + 1, none⟩ = some (.int .i64 ((zs[j]?).getD (0, 0)).2)) (h0 : J [] W) :
    CallsIn F n Tryz.prog 232 #[.func (.yield l) #[] #[], .pointer (some ⟨Bs, 0, none⟩)] W fun e W' => (∃ v, e = .returned v) ∧
      ((∃ ys, ys = upto (bk zs len) len ∧ J ys W') ∨ (∃ pre, (∃ k, k ≤ len ∧ pre = upto (bk zs len) k) ∧ Jx pre W')) := by
  refine callsIn_of_wp Tryz.func232 rfl (hF _) ?_ hro
  simp only [Tryz.ntmps232, List.size_toArray, List.length_cons, List.length_nil, Nat.reduceAdd, Nat.reduceSub, Array.replicate_succ, Array.replicate_zero, List.push_toArray, List.append_toArray, List.nil_append, List.cons_append]
  gi_wp2
  gi_loopw [3] (fun i wr => ∃ k : Nat, k ≤ len ∧ i = .int .i64 ((len : Int) - 1 - k) ∧ J (upto (bk zs len) k) wr ∧ Below n₀ W wr)
    (fun i _ => (intOf i + 1).toNat)
  case atStart => exact ⟨0, Nat.zero_le _, by simp, h0, Below.refl _ _⟩
  case round =>
    obtain ⟨k, hk, rfl, hJs, hnx⟩ := hrel
    have hBx := (hnx.cell (p := ⟨Bs, 0, none⟩) hBn).trans hBs
    by_cases hlt : k < len
    · obtain ⟨fn, tmps, assign, body, hy, hR⟩ := hY _ (bk zs len k) wr hJs (by rw [upto_length]; exact hlt)
      obtain ⟨c1, c2⟩ := hc (len - 1 - k) (by omega)
      have d1 := (hnx.cell (p := ⟨b, off + ((len - 1 - k) * 2), none⟩) hb).trans c1
      have d2 := (hnx.cell (p := ⟨b, off + ((len - 1 - k) * 2) + 1, none⟩) hb).trans c2
      have hix : (len : Int) - 1 - k = ((len - 1 - k : Nat) : Int) := by omega
      dsimp only [bk] at hy
      generalize hj : len - 1 - k = j at *
      rw [hix] at hy ⊢
      gi_wp2
      refine hR.mono ?_
      rintro e W3 (⟨rfl, hJ3, hk3⟩ | ⟨rfl, hJx3⟩)
      · gi_wp2
        go_roundw
        case rel => exact ⟨k + 1, by omega, by simp <;> omega, by rw [upto_succ]; exact hJ3, hnx.trans hk3⟩
        case measure => simp [intOf] <;> omega
      · gi_wp2
        refine bodyPost_ret (results_none rfl _ _ _) rfl ?_
        exact ⟨⟨_, rfl⟩, .inr ⟨_, ⟨k + 1, by omega, (upto_succ _ _).symm⟩, hJx3⟩⟩
    · obtain rfl : k = len := by omega
      have hix : (k : Int) - 1 - k = -1 := by omega
      rw [hix]
      gi_wp2
      go_end0
      exact ⟨⟨_, rfl⟩, .inl ⟨_, rfl, hJs⟩⟩

set_option maxRecDepth 100000 in
set_option maxHeartbeats 1000000 in
/-- .. where there is nothing: no round. -/
theorem back1_nil_in (F : Fence) (n : Nat) (hF : ∀ f, F.fn f) (hro : F.round = none) (l Bs : Nat) (a : Option Addr) (cap : Nat) (J : List (Int × (Int × Int)) → World → Prop) (W : World) (hBs : W.cell? ⟨Bs, 0, none⟩ = some (.slice a 0 cap)) (h0 : J [] W) :
    CallsIn F n Tryz.prog 232 #[.func (.yield l) #[] #[], .pointer (some ⟨Bs, 0, none⟩)] W fun e W' => (∃ v, e = .returned v) ∧ J [] W' := by
  refine callsIn_of_wp Tryz.func232 rfl (hF _) ?_ hro
  simp only [Tryz.ntmps232, List.size_toArray, List.length_cons, List.length_nil, Nat.reduceAdd, Nat.reduceSub, Array.replicate_succ, Array.replicate_zero, List.push_toArray, List.append_toArray, List.nil_append, List.cons_append]
  gi_wp2
  gi_loopw [3] (fun i wr => i = .int .i64 (-1) ∧ J [] wr) (fun _ _ => 0)
  case atStart => exact ⟨by simp, h0⟩
  case round =>
    obtain ⟨rfl, hJs⟩ := hrel
    gi_wp2
    go_end0
    exact ⟨⟨_, rfl⟩, hJs⟩

set_option maxHeartbeats 1000000 in
theorem back_in (F : Fence) (n : Nat) (hF : ∀ f, F.fn f) (hro : F.round = none) (a : Option Addr) (len cap : Nat) (w : World) :
    CallsIn F n Tryz.prog 212 #[.slice a len cap] w fun e w' => e = .returned (.func (.func 232) #[] #[.pointer (some ⟨w.heap.size, 0, none⟩)]) ∧ w' = w.alloc (.cells #[.slice a len cap] 29) := by
  refine callsIn_of_wp Tryz.func212 rfl (hF _) ?_ hro
  simp only [Tryz.ntmps212, List.size_toArray, List.length_cons, List.length_nil, Nat.reduceAdd, Nat.reduceSub, Array.replicate_succ, Array.replicate_zero, List.push_toArray, List.append_toArray, List.nil_append, List.cons_append]
  gi_wp2
  go_ret
  exact ⟨rfl, rfl⟩

/-- The slice value holds these writes. -/
def Wr (W : World) (n₀ : Nat) (a : Option Addr) (zs : List (Int × Int)) : Prop :=
  zs = [] ∨ ∃ b off, a = some ⟨b, off, none⟩ ∧ b < n₀ ∧ ∀ j, j < zs.length → W.cell? ⟨b, off + (j * 2), none⟩ = some (.int .i64 ((zs[j]?).getD (0, 0)).1) ∧ W.cell? ⟨b, off + (j * 2) + 1, none⟩ = some (.int .i64 ((zs[j]?).getD (0, 0)).2)
theorem Wr.below {A B : World} {n₀ : Nat} {a : Option Addr} {zs : List (Int × Int)} (h : Below n₀ A B) : Wr A n₀ a zs → Wr B n₀ a zs
  | .inl e => .inl e
  | .inr ⟨b, off, e, hb, hc⟩ => .inr ⟨b, off, e, hb, fun j hj => ⟨(h.cell (p := ⟨b, off + (j * 2), none⟩) hb).trans (hc j hj).1, (h.cell (p := ⟨b, off + (j * 2) + 1, none⟩) hb).trans (hc j hj).2⟩⟩

theorem back_stops (F : Fence) (n : Nat) (hF : ∀ f, F.fn f) (hro : F.round = none) (hn : 1 ≤ n) (Bs n₀ : Nat) (a : Option Addr) (cap : Nat) (zs : List (Int × Int)) (hreach : zs.length ≤ 1000000) (w : World) (hBs : Bs < n₀) (hn₀ : n₀ ≤ w.heap.size)
    (hc : w.cell? ⟨Bs, 0, none⟩ = some (.slice a zs.length cap)) (hI : Wr w n₀ a zs) :
    SeqStopsK F n Tryz.prog 232 #[.pointer (some ⟨Bs, 0, none⟩)] (fun x : Int × (Int × Int) => #[Value.int .i64 x.1, .agg #[.int .i64 x.2.1, .int .i64 x.2.2]]) (Below n₀) (fun ys => ys = upto (bk zs zs.length) zs.length)
      (fun pre => ∃ k, k ≤ zs.length ∧ pre = upto (bk zs zs.length) k) zs.length w := fun l J Jx W hW _ _ hY h0 => by
  have hc' := (hW.cell (p := ⟨Bs, 0, none⟩) (by show Bs < w.heap.size; omega)).trans hc
  rcases hI.below (hW.mono hn₀) with rfl | ⟨b, off, rfl, hb, hcs⟩
  · exact (back1_nil_in F n hF hro l Bs a cap J W hc' h0).mono fun e W' ⟨he, hj⟩ => ⟨he, .inl ⟨_, rfl, hj⟩⟩
  · exact back1_in F n hF hro hn l Bs n₀ b off zs.length cap zs hreach hb J Jx hY W hc' hBs hcs h0

end Go.Proofs.YtjhfpabldidlgaaGreat.AM

/- writes.Get. -/
set_option linter.all false
namespace Go.Proofs.YtjhfpabldidlgaaGreat.AM
open Go Go.RowKit Go.Shelf

attribute [local go_sem] Oper.semAt_some

def getW (zs : List (Int × Int)) (c : Int) : Int × Bool := match zs.reverse.find? (fun p => p.1 == c) with
  | some p => (p.2, true)
  | none => (0, false)

theorem getW_none {zs : List (Int × Int)} {c : Int} (h : ∀ p ∈ upto (bk zs zs.length) zs.length, p.2.1 ≠ c) : getW zs c = (0, false) := by
  unfold getW
  have : zs.reverse.find? (fun p => p.1 == c) = none := by
    rw [List.find?_eq_none]
    intro p hp
    obtain ⟨i, hi, rfl⟩ := List.getElem_of_mem hp
    simp only [List.length_reverse] at hi
    have := h (bk zs zs.length i) (by simp only [upto, List.mem_map, List.mem_range]; exact ⟨i, hi, rfl⟩)
    have e : (bk zs zs.length i).2 = zs.reverse[i] := by
      simp only [bk, List.getElem_reverse]
      rw [List.getElem?_eq_getElem (by omega)]; rfl
    rw [e] at this
    simpa using this
  rw [this]

theorem getW_some {zs : List (Int × Int)} {c : Int} {k : Nat} (hk : k < zs.length) (h : ∀ p ∈ upto (bk zs zs.length) k, p.2.1 ≠ c) (he : (bk zs zs.length k).2.1 = c) : getW zs c = ((bk zs zs.length k).2.2, true) := by
  unfold getW
  have e : ∀ i (hi : i < zs.length), (bk zs zs.length i).2 = zs.reverse[i]'(by simpa using hi) := by
    intro i hi
    simp only [bk, List.getElem_reverse]
    rw [List.getElem?_eq_getElem (by omega)]; rfl
  have : zs.reverse.find? (fun p => p.1 == c) = some (bk zs zs.length k).2 := by
    rw [List.find?_eq_some_iff_getElem]
    refine ⟨by simpa using he, k, by simpa using hk, (e k hk).symm, fun j hj => ?_⟩
    have := h (bk zs zs.length j) (by simp only [upto, List.mem_map, List.mem_range]; exact ⟨j, hj, rfl⟩)
    rw [e j (by omega)] at this
    simpa using this
  rw [this]

/-- Right, in the fence. -/
theorem right_in (n : Nat) (L : Lg) (v : Value) (W : World) (hv : RD (fun B => B < W.heap.size) W (dLg L) v) :
    CallsIn Fence.wide n Tryz.prog 127 #[v] W fun e W' => e = .returned (.bool (logR L)) ∧ Below W.heap.size W W' := by
  refine callsIn_wide.2 ?_
  refine ((c_W_Right L).2 (fun B => B < W.heap.size) W [v] (fun _ h => h) rfl (fun i d c hd hc => ?_)).mono ?_
  · cases i with
    | zero => simp at hd hc; subst hd; subst hc; exact hv
    | succ i => simp at hd
  · rintro e W' ⟨c, S', rfl, hr, _, hk⟩
    cases hr
    exact ⟨rfl, hk.os, hk.tape, hk.output, hk.size, fun B hB => hk.block B hB id⟩

theorem rd_below {x : D} {v : Value} {W W' : World} (h : RD (fun B => B < W.heap.size) W x v) (hb : Below W.heap.size W W') : RD (fun B => B < W'.heap.size) W' x v :=
  h.keep (fun B _ hB => ⟨Nat.lt_of_lt_of_le hB hb.size, hb.block B hB⟩)


/-- A box of these cells. -/
def BoxN (W : World) (B : Nat) (t : TypeId) (cs : Array Value) : Prop := W.heap[B]? = some (.cells cs t)
theorem BoxN.new (W : World) (t : TypeId) (cs : Array Value) : BoxN (W.alloc (.cells cs t)) W.heap.size t cs := World.alloc_heap_new W _
theorem BoxN.alloc {W : World} {B t cs} (h : BoxN W B t cs) (o : Obj) : BoxN (W.alloc o) B t cs := (Below.heap_alloc W o B (Array.getElem?_eq_some_iff.1 h).1).trans h
theorem BoxN.below {W W' : World} {n₀ B t cs} (h : BoxN W B t cs) (hb : Below n₀ W W') (hB : B < n₀) : BoxN W' B t cs := (hb.block B hB).trans h
theorem BoxN.cell {W : World} {B t cs} (h : BoxN W B t cs) {i : Nat} {v : Value} (hv : cs[i]? = some v) : W.cell? ⟨B, i, none⟩ = some v := by
  unfold BoxN at h; simp [World.cell?, h, hv]
theorem BoxN.frozen {W : World} {B t cs} (h : BoxN W B t cs) (i : Nat) : W.frozen? ⟨B, i, none⟩ = false := by
  unfold BoxN at h; simp [World.frozen?, h]
theorem BoxN.lt {W : World} {B t cs} (h : BoxN W B t cs) : B < W.heap.size := (Array.getElem?_eq_some_iff.1 h).1


theorem Wr.mono {A : World} {n m : Nat} {a : Option Addr} {zs : List (Int × Int)} (hm : n ≤ m) : Wr A n a zs → Wr A m a zs
  | .inl e => .inl e
  | .inr ⟨b, off, e, hb, hc⟩ => .inr ⟨b, off, e, by omega, hc⟩

theorem boxN_own {β : Type} (B : Nat) (t : TypeId) (f : β → Array Value) : Own (fun s W => BoxN W B t (f s)) := fun s X Y row hs hg hrow =>
  (hg.block B hs.lt (fun e' => by obtain ⟨o, ho, hc⟩ := hrow B e'.symm; rw [show X.heap[B]? = _ from hs] at ho; cases ho; cases hc)).trans hs

/-- Behind two stores into boxes. -/
theorem two_stores {w W : World} {B t t' : Nat} {x x' y y' : Value} (h4 : BoxN W B t #[x]) (h5 : BoxN W (B + 1) t' #[y]) (hB : w.heap.size ≤ B) (hb : Below w.heap.size w W) :
    ((W.setCell ⟨B, 0, none⟩ x').setCell ⟨B + 1, 0, none⟩ y').cell? ⟨B, 0, none⟩ = some x' ∧ ((W.setCell ⟨B, 0, none⟩ x').setCell ⟨B + 1, 0, none⟩ y').cell? ⟨B + 1, 0, none⟩ = some y' ∧ Below w.heap.size w ((W.setCell ⟨B, 0, none⟩ x').setCell ⟨B + 1, 0, none⟩ y') := by
  have e4 := Boxed.set x' (W := W) (B := B) (t := t) (v := x) h4
  have e5 := Boxed.other (W := W) (B := B + 1) (B' := B) (t := t') (v := y) h5 (by omega) x'
  have e4' := Boxed.other (B := B) (B' := B + 1) e4 (by omega) y'
  have e5' := Boxed.set y' e5
  exact ⟨e4'.cell, e5'.cell, (hb.setCell (p := ⟨B, 0, none⟩) hB x').setCell (p := ⟨B + 1, 0, none⟩) (by show w.heap.size ≤ B + 1; omega) y'⟩

set_option maxRecDepth 100000 in
set_option maxHeartbeats 4000000 in
theorem get_no (n : Nat) (hn : 3 ≤ n) (L : Lg) (a a2 : Option Addr) (cap n2 cap2 : Nat) (c : Int) (w : World) (hlog : logR L = false)
    (hv : RD (fun B => B < w.heap.size) w (dLg L) (.agg #[.slice a L.1.length cap, .slice a2 n2 cap2])) :
    CallsIn Fence.wide n Tryz.prog 168 #[.agg #[.slice a L.1.length cap, .slice a2 n2 cap2], .int .i64 c] w fun e W' =>
      e = .returned (.tuple #[.int .i64 0, .bool false]) ∧ Below w.heap.size w W' := by
  have hF : ∀ f, Fence.wide.fn f := fun _ => trivial
  have hro : Fence.wide.round = none := rfl
  have h1 : 1 ≤ n := by omega
  refine callsIn_of_wp_marks Tryz.func168 rfl (hF _) ?_ hro
  simp only [Tryz.ntmps168, List.size_toArray, List.length_cons, List.length_nil, Nat.reduceAdd, Nat.reduceSub, Array.replicate_succ, Array.replicate_zero, List.push_toArray, List.append_toArray, List.nil_append, List.cons_append]
  have hbx : Below w.heap.size w ((((w.alloc (.cells #[.slice a L.1.length cap, .slice a2 n2 cap2] 31)).alloc (.cells #[.int .i64 c] 3)).alloc (.cells #[.int .i64 0] 3)).alloc (.cells #[.bool false] 4)) :=
    ((((Below.refl _ w).alloc (Nat.le_refl _) _).alloc (by simp) _).alloc (by simp; omega) _).alloc (by simp; omega) _
  have k2 := (((BoxN.new w 31 #[.slice a L.1.length cap, .slice a2 n2 cap2]).alloc (.cells #[.int .i64 c] 3)).alloc (.cells #[.int .i64 0] 3)).alloc (.cells #[.bool false] 4)
  have k3 := (((BoxN.new (w.alloc (.cells #[.slice a L.1.length cap, .slice a2 n2 cap2] 31)) 3 #[.int .i64 c]).alloc (.cells #[.int .i64 0] 3)).alloc (.cells #[.bool false] 4))
  have k4 := ((BoxN.new ((w.alloc (.cells #[.slice a L.1.length cap, .slice a2 n2 cap2] 31)).alloc (.cells #[.int .i64 c] 3)) 3 #[.int .i64 0]).alloc (.cells #[.bool false] 4))
  have k5 := BoxN.new (((w.alloc (.cells #[.slice a L.1.length cap, .slice a2 n2 cap2] 31)).alloc (.cells #[.int .i64 c] 3)).alloc (.cells #[.int .i64 0] 3)) 4 #[.bool false]
  simp only [World.size_alloc] at k3 k4 k5
  have hRt := fun W h => right_in (n - 1) L (.agg #[.slice a L.1.length cap, .slice a2 n2 cap2]) W h
  rw [hlog] at hRt
  have c20' : ∀ W, BoxN W w.heap.size 31 #[.slice a L.1.length cap, .slice a2 n2 cap2] → W.cell? ⟨w.heap.size, 0, none⟩ = some (.slice a L.1.length cap) := fun W h => h.cell rfl
  have c21' : ∀ W, BoxN W w.heap.size 31 #[.slice a L.1.length cap, .slice a2 n2 cap2] → W.cell? ⟨w.heap.size, 1, none⟩ = some (.slice a2 n2 cap2) := fun W h => h.cell rfl
  have c30' : ∀ W, BoxN W (w.heap.size + 1) 3 #[.int .i64 c] → W.cell? ⟨w.heap.size + 1, 0, none⟩ = some (.int .i64 c) := fun W h => h.cell rfl
  have c40' : ∀ W, BoxN W (w.heap.size + 1 + 1) 3 #[.int .i64 0] → W.cell? ⟨w.heap.size + 1 + 1, 0, none⟩ = some (.int .i64 0) := fun W h => h.cell rfl
  have c50' : ∀ W, BoxN W (w.heap.size + 1 + 1 + 1) 4 #[.bool false] → W.cell? ⟨w.heap.size + 1 + 1 + 1, 0, none⟩ = some (.bool false) := fun W h => h.cell rfl
  gi_wp2_with (first | (gi_at_call 127; refine (hRt _ (rd_below hv hbx)).mono ?_; rintro e w1 ⟨rfl, hb1⟩; have q2 := k2.below hb1 k2.lt; have q3 := k3.below hb1 k3.lt; have q4 := k4.below hb1 k4.lt; have q5 := k5.below hb1 k5.lt; have hbw := hbx.trans (hb1.mono hbx.size); clear hb1 hbx k2 k3 k4 k5 hRt; have c20 := c20' _ q2; have c21 := c21' _ q2; have c30 := c30' _ q3; have c40 := c40' _ q4; have c50 := c50' _ q5; have f4 := q4.frozen 0; have f5 := q5.frozen 0) | (gi_at_call 212; refine (back_in Fence.wide (n - 1) hF hro _ _ _ _).mono ?_; rintro e w' ⟨rfl, rfl⟩))
  obtain ⟨e1, e2, e3⟩ := two_stores (w := w) (x' := .int .i64 0) (y' := .bool false) q4 q5 (by omega) hbw
  refine ⟨.tuple #[.int .i64 0, .bool false], ?_, rfl, e3⟩
  simp [results, Tryz.f168, go_sem, e1, e2]

set_option maxRecDepth 100000 in
set_option maxHeartbeats 4000000 in
theorem get_yes (n : Nat) (hn : 3 ≤ n) (L : Lg) (a a2 : Option Addr) (cap n2 cap2 : Nat) (c : Int) (w : World) (hlog : logR L = true) (hl : L.1.length ≤ 1000000)
    (hv : RD (fun B => B < w.heap.size) w (dLg L) (.agg #[.slice a L.1.length cap, .slice a2 n2 cap2])) (hI : Wr w w.heap.size a L.1) :
    CallsIn Fence.wide n Tryz.prog 168 #[.agg #[.slice a L.1.length cap, .slice a2 n2 cap2], .int .i64 c] w fun e W' =>
      e = .returned (.tuple #[.int .i64 (getW L.1 c).1, .bool (getW L.1 c).2]) ∧ Below w.heap.size w W' := by
  have hF : ∀ f, Fence.wide.fn f := fun _ => trivial
  have hro : Fence.wide.round = none := rfl
  have h1 : 1 ≤ n := by omega
  refine callsIn_of_wp_marks Tryz.func168 rfl (hF _) ?_ hro
  simp only [Tryz.ntmps168, List.size_toArray, List.length_cons, List.length_nil, Nat.reduceAdd, Nat.reduceSub, Array.replicate_succ, Array.replicate_zero, List.push_toArray, List.append_toArray, List.nil_append, List.cons_append]
  have hbx : Below w.heap.size w ((((w.alloc (.cells #[.slice a L.1.length cap, .slice a2 n2 cap2] 31)).alloc (.cells #[.int .i64 c] 3)).alloc (.cells #[.int .i64 0] 3)).alloc (.cells #[.bool false] 4)) :=
    ((((Below.refl _ w).alloc (Nat.le_refl _) _).alloc (by simp) _).alloc (by simp; omega) _).alloc (by simp; omega) _
  have k2 := (((BoxN.new w 31 #[.slice a L.1.length cap, .slice a2 n2 cap2]).alloc (.cells #[.int .i64 c] 3)).alloc (.cells #[.int .i64 0] 3)).alloc (.cells #[.bool false] 4)
  have k3 := (((BoxN.new (w.alloc (.cells #[.slice a L.1.length cap, .slice a2 n2 cap2] 31)) 3 #[.int .i64 c]).alloc (.cells #[.int .i64 0] 3)).alloc (.cells #[.bool false] 4))
  have k4 := ((BoxN.new ((w.alloc (.cells #[.slice a L.1.length cap, .slice a2 n2 cap2] 31)).alloc (.cells #[.int .i64 c] 3)) 3 #[.int .i64 0]).alloc (.cells #[.bool false] 4))
  have k5 := BoxN.new (((w.alloc (.cells #[.slice a L.1.length cap, .slice a2 n2 cap2] 31)).alloc (.cells #[.int .i64 c] 3)).alloc (.cells #[.int .i64 0] 3)) 4 #[.bool false]
  simp only [World.size_alloc] at k3 k4 k5
  have hRt := fun W h => right_in (n - 1) L (.agg #[.slice a L.1.length cap, .slice a2 n2 cap2]) W h
  rw [hlog] at hRt
  have c20' : ∀ W, BoxN W w.heap.size 31 #[.slice a L.1.length cap, .slice a2 n2 cap2] → W.cell? ⟨w.heap.size, 0, none⟩ = some (.slice a L.1.length cap) := fun W h => h.cell rfl
  have c21' : ∀ W, BoxN W w.heap.size 31 #[.slice a L.1.length cap, .slice a2 n2 cap2] → W.cell? ⟨w.heap.size, 1, none⟩ = some (.slice a2 n2 cap2) := fun W h => h.cell rfl
  have c30' : ∀ W, BoxN W (w.heap.size + 1) 3 #[.int .i64 c] → W.cell? ⟨w.heap.size + 1, 0, none⟩ = some (.int .i64 c) := fun W h => h.cell rfl
  have c40' : ∀ W, BoxN W (w.heap.size + 1 + 1) 3 #[.int .i64 0] → W.cell? ⟨w.heap.size + 1 + 1, 0, none⟩ = some (.int .i64 0) := fun W h => h.cell rfl
  have c50' : ∀ W, BoxN W (w.heap.size + 1 + 1 + 1) 4 #[.bool false] → W.cell? ⟨w.heap.size + 1 + 1 + 1, 0, none⟩ = some (.bool false) := fun W h => h.cell rfl
  gi_wp2_with (first | (gi_at_call 127; refine (hRt _ (rd_below hv hbx)).mono ?_; rintro e w1 ⟨rfl, hb1⟩; have q2 := k2.below hb1 k2.lt; have q3 := k3.below hb1 k3.lt; have q4 := k4.below hb1 k4.lt; have q5 := k5.below hb1 k5.lt; have hbw := hbx.trans (hb1.mono hbx.size); clear hb1 hbx k2 k3 k4 k5 hRt; have c20 := c20' _ q2; have c21 := c21' _ q2; have c30 := c30' _ q3; have c40 := c40' _ q4; have c50 := c50' _ q5; have f4 := q4.frozen 0; have f5 := q5.frozen 0) | (gi_at_call 212; refine (back_in Fence.wide (n - 1) hF hro _ _ _ _).mono ?_; rintro e w' ⟨rfl, rfl⟩))
  clear c20' c21' c30' c40' c50'
  have hBn := BoxN.new w1 29 #[.slice a L.1.length cap]
  have hbn : Below w1.heap.size w1 (w1.alloc (.cells #[.slice a L.1.length cap] 29)) := (Below.refl _ w1).alloc (Nat.le_refl _) _
  have hsz : (w1.alloc (.cells #[.slice a L.1.length cap] 29)).heap.size = w1.heap.size + 1 := World.size_alloc _ _
  have r3 := q3.below hbn q3.lt
  have r4 := q4.below hbn q4.lt
  have r5 := q5.below hbn q5.lt
  have hbW := hbw.trans (hbn.mono hbw.size)
  have hI4 : Wr (w1.alloc (.cells #[.slice a L.1.length cap] 29)) (w1.alloc (.cells #[.slice a L.1.length cap] 29)).heap.size a L.1 := (hI.below hbW).mono hbW.size
  have hw1 := hbw.size
  have l5 := q5.lt
  clear q2 q3 q4 q5 c20 c21 c30 c40 c50 f4 f5 hbn
  generalize hW4 : w1.alloc (.cells #[.slice a L.1.length cap] 29) = W4 at *
  clear hW4
  refine wpIn_rangeFunc_ownH hro h1 (gf := 232) (lb := #[.pointer (some ⟨w1.heap.size, 0, none⟩)]) rfl (hF _) (enters_of Tryz.func232 (by kernel_rfl) rfl)
    (back_stops Fence.wide (n - 1) hF hro (by omega) w1.heap.size W4.heap.size a cap L.1 hl W4 (by omega) (Nat.le_refl _) (hBn.cell rfl) hI4) belowK_t (belowK_b (Nat.le_refl _)) (Below.refl _ _) (fun _ => rfl)
    (fun pre W => (∀ p ∈ pre, p.2.1 ≠ c) ∧ Below W4.heap.size W4 W)
    (fun j pre W => (j = .ret ∧ (∃ ini last, pre = ini ++ [last] ∧ (∀ p ∈ ini, p.2.1 ≠ c) ∧ last.2.1 = c ∧ W.cell? ⟨w.heap.size + 1 + 1, 0, none⟩ = some (.int .i64 last.2.2)) ∧ W.cell? ⟨w.heap.size + 1 + 1 + 1, 0, none⟩ = some (.bool true)) ∧ Below w.heap.size w W)
    (OwnFrom.and (ownFrom_pure _ _) (ownFrom_below (Nat.le_refl _) (Nat.le_refl _)))
    (fun j => OwnFrom.and (Own.from (fun s A B row hs hg hr => by obtain ⟨hc, ⟨ini, last, e1, e2, e3, e4⟩, e5⟩ := hs; exact ⟨hc, ⟨ini, last, e1, e2, e3, cell_kept e4 hg hr⟩, cell_kept e5 hg hr⟩) _) (ownFrom_below (Nat.le_refl _) (by omega)))
    ⟨by simp, Below.refl _ _⟩
    (fun x a' W => ∃ Bx, W4.heap.size ≤ Bx ∧ BoxN W Bx 109 #[.int .i64 x.2.1, .int .i64 x.2.2] ∧ a' = { tmps := #[.agg #[.slice a L.1.length cap, .slice a2 n2 cap2], .int .i64 c,
          .pointer (some ⟨w.heap.size, 0, none⟩), .pointer (some ⟨w.heap.size + 1, 0, none⟩), .pointer (some ⟨w.heap.size + 1 + 1, 0, none⟩), .pointer (some ⟨w.heap.size + 1 + 1 + 1, 0, none⟩), undef, .pointer (some ⟨Bx, 0, none⟩),
          .agg #[.slice a L.1.length cap, .slice a2 n2 cap2], .bool true, .bool false, .pointer (some ⟨w.heap.size, 0, none⟩), .slice a L.1.length cap,
          .func (.func 232) #[] #[.pointer (some ⟨w1.heap.size, 0, none⟩)], .int .i64 x.1, .agg #[.int .i64 x.2.1, .int .i64 x.2.2], undef, undef, undef, undef, undef, undef], defers := [] })
    (fun x a' => fun s A B row hs hg hr => by obtain ⟨Bx, g1, g2, g3⟩ := hs; exact ⟨Bx, g1, boxN_own Bx _ (fun _ : Unit => #[.int .i64 x.2.1, .int .i64 x.2.2]) () A B row g2 hg (fun r e => (hr r e).2), g3⟩) ?assign ?body ?done ?stop
  case assign =>
    rintro l pre x W K ⟨hi, hB⟩ hK
    gi_wp2
    exact hK _ _ ((KeepsOthers.alloc _ _).from _) ((Below.refl _ W).alloc hB.size _) ⟨hi, hB.alloc hB.size _⟩ ⟨W.heap.size, hB.size, BoxN.new W _ _, rfl⟩
  case body =>
    rintro l pre x a' W hl' ⟨r, hr⟩ ⟨hi, hB⟩ ⟨Bx, hBx, bX, rfl⟩ hlt
    have s3 := r3.below hB r3.lt
    have s4 := r4.below hB r4.lt
    have s5 := r5.below hB r5.lt
    have c0 : W.cell? ⟨Bx, 0, none⟩ = some (.int .i64 x.2.1) := bX.cell rfl
    have c1 : W.cell? ⟨Bx, 1, none⟩ = some (.int .i64 x.2.2) := bX.cell rfl
    have c3 : W.cell? ⟨w.heap.size + 1, 0, none⟩ = some (.int .i64 c) := s3.cell rfl
    have c4 : W.cell? ⟨w.heap.size + 1 + 1, 0, none⟩ = some (.int .i64 0) := s4.cell rfl
    have c5 : W.cell? ⟨w.heap.size + 1 + 1 + 1, 0, none⟩ = some (.bool false) := s5.cell rfl
    have f4 := s4.frozen 0
    have f5 := s5.frozen 0
    gi_wp2
    · have hx : x.2.1 = c := eq_of_beq (by assumption)
      obtain ⟨t1, t2, t3⟩ := two_stores (w := w) (x' := .int .i64 x.2.2) (y' := .bool true) s4 s5 (by omega) (hbW.trans (hB.mono hbW.size))
      exact ⟨((KeepsOthers.setCell _ _ _).trans (KeepsOthers.setCell _ _ _)).from _, ⟨rfl, ⟨pre, x, rfl, hi, hx, t1⟩, t2⟩, t3⟩
    · have hx : x.2.1 ≠ c := ne_of_beq_false (by assumption)
      exact ⟨KeepsFrom.refl _ _, Below.refl _ _, ⟨fun p hp' => (List.mem_append.1 hp').elim (hi p) (fun e => by simp at e; subst e; exact hx), hB⟩⟩
  case done =>
    rintro D ys W hD rfl ⟨hne, hB⟩ hK
    have s4 := r4.below hB r4.lt
    have s5 := r5.below hB r5.lt
    have c4 : W.cell? ⟨w.heap.size + 1 + 1, 0, none⟩ = some (.int .i64 0) := s4.cell rfl
    have c5 : W.cell? ⟨w.heap.size + 1 + 1 + 1, 0, none⟩ = some (.bool false) := s5.cell rfl
    have f4 := s4.frozen 0
    have f5 := s5.frozen 0
    gi_wp2
    obtain ⟨t1, t2, t3⟩ := two_stores (w := w) (x' := .int .i64 0) (y' := .bool false) s4 s5 (by omega) (hbW.trans (hB.mono hbW.size))
    have hK' := ((KeepsOthers.setCell W ⟨w.heap.size + 1 + 1, 0, none⟩ (.int .i64 0)).trans (KeepsOthers.setCell _ ⟨w.heap.size + 1 + 1 + 1, 0, none⟩ (.bool false))).same D _ hK rfl
    refine ⟨by simp, .inl ⟨_, _, rfl, run_takeDeferred hK', ?_⟩⟩
    have d1 := cell_kept t1 (grownBy_putObj' _ D (.deferred none)) (fun r e => by cases e; exact ⟨_, hK', rfl⟩)
    have d2 := cell_kept t2 (grownBy_putObj' _ D (.deferred none)) (fun r e => by cases e; exact ⟨_, hK', rfl⟩)
    refine ⟨.tuple #[.int .i64 0, .bool false], ?_, by rw [getW_none hne], t3.trans (belowK_b (w := w) (Nat.le_refl _) _ D _ _ (by omega) hK' rfl rfl)⟩
    simp [results, Tryz.f168, go_sem, d1, d2]
  case stop =>
    rintro D j pre W hD ⟨k, hk, rfl⟩ ⟨⟨rfl, ⟨ini, last, e1, e2, e3, c4⟩, c5⟩, hB⟩ hK
    gi_wp2
    refine ⟨by simp, .inl ⟨_, _, rfl, run_takeDeferred hK, ?_⟩⟩
    have d1 := cell_kept c4 (grownBy_putObj' _ D (.deferred none)) (fun r e => by cases e; exact ⟨_, hK, rfl⟩)
    have d2 := cell_kept c5 (grownBy_putObj' _ D (.deferred none)) (fun r e => by cases e; exact ⟨_, hK, rfl⟩)
    obtain ⟨k', rfl⟩ : ∃ k', k = k' + 1 := by
      cases k with
      | zero => simp [upto] at e1
      | succ k' => exact ⟨k', rfl⟩
    rw [upto_succ] at e1
    obtain ⟨rfl, e5⟩ := List.append_inj' e1 rfl
    obtain rfl : bk L.1 L.1.length k' = last := by simpa using e5
    refine ⟨.tuple #[.int .i64 (bk L.1 L.1.length k').2.2, .bool true], ?_, by rw [getW_some (by omega) e2 e3], hB.trans (belowK_b (w := w) (Nat.le_refl _) _ D _ _ (by omega) hK rfl rfl)⟩
    simp [results, Tryz.f168, go_sem, d1, d2]

/-- writes.Get: the last write of the cell, or none. -/
theorem c_Get (L : Lg) (c : Int) : CSpec Tryz.prog 168 [dLg L, .int .i64 c] (.tuple [.int .i64 (if logR L = true then (getW L.1 c).1 else 0), .bool (logR L && (getW L.1 c).2)]) := by
  refine ⟨fun args w => Tryz.call168 args w, fun S0 w cs hS0 hlen hrel => ?_⟩
  match cs, hlen with
  | [v, cv], _ =>
    have hv0 := hrel 0 _ v rfl rfl
    have hc0 := hrel 1 _ cv rfl rfl
    cases hc0
    have hv : RD (fun B => B < w.heap.size) w (dLg L) v := hv0.keep (fun B hB _ => ⟨hS0 B hB, rfl⟩)
    have hv' := hv
    unfold dLg at hv
    cases hv with
    | agg _ cs hl hcs =>
      match cs, hl with
      | [s1, s2], _ =>
        have h1 := hcs 0 _ s1 rfl rfl
        have h2 := hcs 1 _ s2 rfl rfl
        generalize hL1 : L.1.map dW = els at h1
        generalize hL2 : L.2.map dI = els2 at h2
        cases h1 with
        | vec _ a cap B o sz m hcap ha hsz hcell hval =>
          cases h2 with
          | vec _ a2 cap2 B2 o2 sz2 m2 _ _ _ _ _ =>
            have hlen : els.length = L.1.length := by rw [← hL1]; simp
            have hI : Wr w w.heap.size a L.1 := by
              rcases Nat.eq_zero_or_pos L.1.length with h0 | h0
              · exact .inl (List.length_eq_zero_iff.1 h0)
              · have hne : els ≠ [] := fun e => by rw [e] at hlen; simp at hlen; omega
                refine .inr ⟨B, o, ha hne, ?_, fun j hj => ?_⟩
                · have e0 : els[0]? = some (dW L.1[0]) := by rw [← hL1]; simp [List.getElem?_eq_getElem h0]
                  exact (hcell 0 _ 0 _ e0 rfl).1
                · have e0 : els[j]? = some (dW L.1[j]) := by rw [← hL1]; simp [List.getElem?_eq_getElem hj]
                  have hs : sz = 2 := by have := hsz _ (List.mem_of_getElem? e0); simpa [dW, D.cells] using this.symm
                  subst hs
                  have a0 := (hcell j _ 0 _ e0 rfl).2
                  have a1 := (hcell j _ 1 _ e0 rfl).2
                  have b0 := hval j _ 0 _ e0 rfl
                  have b1 := hval j _ 1 _ e0 rfl
                  rw [List.getElem?_eq_getElem hj]
                  generalize m (j * 2 + 0) = q0 at a0 b0
                  generalize m (j * 2 + 1) = q1 at a1 b1
                  cases b0
                  cases b1
                  exact ⟨a0, by rw [Nat.add_assoc]; exact a1⟩
            rw [hlen] at hv' ⊢
            have fin : ∀ (x : Int) (y : Bool), (Calls Tryz.prog 168 #[.agg #[.slice a L.1.length cap, .slice a2 els2.length cap2], .int .i64 c] w fun e W' => e = .returned (.tuple #[.int .i64 x, .bool y]) ∧ Below w.heap.size w W') →
                Calls Tryz.prog 168 #[.agg #[.slice a L.1.length cap, .slice a2 els2.length cap2], .int .i64 c] w fun e w' => ∃ c S', e = .returned c ∧ RD S' w' (.tuple [.int .i64 x, .bool y]) c ∧ (∀ B, S' B → (S0 B ∨ w.heap.size ≤ B) ∧ B < w'.heap.size) ∧ Kp ⟨w.heap.size, fun _ => False, S0⟩ w w' := by
              intro x y h
              refine h.mono ?_
              rintro e W' ⟨rfl, hb⟩
              refine ⟨_, fun _ => False, rfl, RD.tuple [.int .i64 x, .bool y] [.int .i64 x, .bool y] rfl (fun i d c hd hc => ?_), fun B hB => hB.elim, ⟨hb.os, hb.tape, hb.output, hb.size, fun B hB _ => hb.block B hB⟩⟩
              match i with
              | 0 => simp at hd hc; subst hd; subst hc; exact .int _ _
              | 1 => simp at hd hc; subst hd; subst hc; exact .bool _
              | i + 2 => simp at hd
            refine fin _ _ ?_
            cases hlog : logR L with
            | false => exact callsIn_wide.1 (get_no 3 (Nat.le_refl _) L a a2 cap els2.length cap2 c w hlog hv')
            | true => exact callsIn_wide.1 (get_yes 3 (Nat.le_refl _) L a a2 cap els2.length cap2 c w hlog (by have := (logR_len hlog).1; omega) hv' hI)

end Go.Proofs.YtjhfpabldidlgaaGreat.AM

/- A try: what it is, step by step. -/
set_option linter.all false
set_option maxRecDepth 100000
set_option maxHeartbeats 4000000
namespace Go.Proofs.YtjhfpabldidlgaaGreat.AM
open Go Go.RowKit

/-- A frame. -/
structure Fr where
  mid : Int
  fin : Int
  long : Int
  regs : List Int
  deriving DecidableEq
def dFr (f : Fr) : D := .agg [.int .i64 f.mid, .int .i64 f.fin, .int .i64 f.long, .vec (f.regs.map dI)]
abbrev Rd := Int × Int × Int
def dRd (r : Rd) : D := .agg [.int .i64 r.1, .int .i64 r.2.1, .int .i64 r.2.2]
/-- A try. -/
structure Ty where
  who : Int
  snap : Int
  pc : Int
  regs : List Int
  path : List Int
  reads : List Rd
  log : Lg
  frames : List Fr
  kind : Int
  why : Int
  deriving DecidableEq
def tyC (t : Ty) : List D := [.int .i64 t.who, .int .i64 t.snap, .int .i64 t.pc, .vec (t.regs.map dI), .vec (t.path.map dI), .vec (t.reads.map dRd), .vec (t.log.1.map dW), .vec (t.log.2.map dI), .vec (t.frames.map dFr), .int .i64 t.kind, .int .i64 t.why]
def dT (t : Ty) : D := .agg (tyC t)

def popT (t : Ty) (f : Fr) : Ty := { t with pc := f.fin, frames := t.frames.dropLast, log := (logKeep t.log).1 }
def setF : Nat → Ty → Ty
  | 0, t => t
  | n + 1, t => match t.frames[n]? with
    | some f => if f.mid = t.pc then setF n (popT t f) else t
    | none => t
def doneT (n : Int) (t : Ty) : Ty := if t.pc = n then { t with kind := 1 } else t
/-- Settled. -/
def setT (n : Int) (t : Ty) : Ty := doneT n (setF t.frames.length t)
def zeroT : Ty := ⟨0, 0, 0, [], [], [], ([], []), [], 0, 0⟩
def newT (who snap : Int) : Ty := { zeroT with who := who, snap := snap, regs := [0, 0, 0, 0, 0, 0, 0, 0] }
def mayB (c : List St) (who snap : Int) : Bool := decide (codeC c = 0) && decide (1 ≤ who) && decide (who ≤ 8) && tickR snap
def begT (c : List St) (who snap : Int) : Ty := if mayB c who snap = true then setT c.length (newT who snap) else zeroT

def rightRd (r : Rd) : Bool := decide (0 ≤ r.1) && tickR r.2.1 && spanR r.2.2
def readsR (l : List Rd) : Bool := l.all rightRd && decide ((l.map fun r => r.1).Nodup) && decide (l.length ≤ 24)
def wrongR (r : Int × Int) : Bool := decide (r.1 < 0) || decide (2147483647 < r.1) || decide (r.2 < 0) || decide (8 < r.2)
def tableR (r : List (Int × Int)) : Bool := decide (1 ≤ r.length) && decide (r.length ≤ 16) && !(r.any wrongR)
def getL (l : Lg) (c : Int) : Int × Bool := (if logR l = true then (getW l.1 c).1 else 0, logR l && (getW l.1 c).2)
def recR (r : List (Int × Int)) (c : Int) : Int × Int := (r[(c.tmod r.length).toNat]?).getD (0, 0)

def endT (t : Ty) (k w : Int) : Ty := { t with kind := k, why := w }
def putT (t : Ty) (a v : Int) : Ty := { t with regs := t.regs.set a.toNat v, pc := t.pc + 1 }
def loadT (t : Ty) (s : St) (h : List (Bool × Int)) (r : List (Int × Int)) : Ty :=
  if (heapGet h s.b).2 ≠ 0 then endT t 4 s.b
  else if (getL t.log s.b).2 = true then putT t s.a (getL t.log s.b).1
  else match t.reads.find? (fun x => x.1 == s.b) with
    | some x => putT t s.a x.2.2
    | none => if (recR r s.b).2 ≠ 0 ∨ (recR r s.b).1 > t.snap then endT t 5 0
      else putT { t with reads := t.reads ++ [(s.b, (recR r s.b).1, (heapGet h s.b).1)] } s.a (heapGet h s.b).1
def tellT (t : Ty) (h : List (Bool × Int)) (x : List (Int × Int)) : Int := (evalT h t.regs x).1
def storeT (t : Ty) (s : St) (h : List (Bool × Int)) : Ty :=
  if (heapGet h s.a).2 ≠ 0 then endT t 4 s.a else { t with log := (logPut t.log (s.a, tellT t h s.t)).1, pc := t.pc + 1 }
def skipT (t : Ty) (s : St) (h : List (Bool × Int)) : Ty := { t with pc := if tellT t h s.t = 0 then t.pc + 1 + s.a else t.pc + 1 }
def agT (t : Ty) : Ty := match t.frames.getLast? with
  | none => endT t 2 0
  | some f => { t with log := (logBack t.log).1, frames := t.frames.dropLast, regs := f.regs, pc := f.mid, path := t.path.take f.long.toNat ++ [2] }
def eiT (t : Ty) (s : St) : Ty :=
  { t with log := (logMark t.log).1, frames := t.frames ++ [⟨t.pc + 1 + s.a, t.pc + 1 + s.a + s.b, t.path.length, t.regs⟩], path := t.path ++ [1], pc := t.pc + 1 }
def doT (t : Ty) (s : St) (h : List (Bool × Int)) (r : List (Int × Int)) : Ty :=
  if s.d = 1 then loadT t s h r else if s.d = 2 then putT t s.a (tellT t h s.t) else if s.d = 3 then storeT t s h else if s.d = 4 then skipT t s h
  else if s.d = 5 then agT t else if s.d = 6 then endT t 3 s.a else eiT t s
def mayT (t : Ty) (h : List (Bool × Int)) (r : List (Int × Int)) : Bool := heapR h && tableR r && decide (t.kind = 0)
/-- One step of a try that runs. -/
def stpT (t : Ty) (c : List St) (h : List (Bool × Int)) (r : List (Int × Int)) : Ty := match c[t.pc.toNat]? with
  | some s => if (doT t s h r).kind ≠ 0 then doT t s h r else setT c.length (doT t s h r)
  | none => t
def stepT (t : Ty) (c : List St) (h : List (Bool × Int)) (r : List (Int × Int)) : Ty := if mayT t h r = true then stpT t c h r else t

/-! ### parts of a code that are well -/
def Wd (l : List St) (d : Int) : Prop := (wellW l).2 = true ∧ (wellW l).1 ≤ d

theorem Wd.nil {d : Int} (h : 0 ≤ d) : Wd [] d := by simp [Wd, wellW, h]
theorem Wd.mono {l : List St} {d e : Int} (h : Wd l d) (hd : d ≤ e) : Wd l e := ⟨h.1, by have := h.2; omega⟩
theorem Wd.pos {l : List St} {d : Int} (h : Wd l d) (hm : ∀ x ∈ l, mayS x = true) : 0 ≤ d := by have := (wellW_rng _ l (Nat.le_refl _) hm).1; have := h.2; omega

theorem Wd.app : ∀ (N : Nat) (a b : List St) (d : Int), a.length ≤ N → (∀ x ∈ a, mayS x = true) → Wd a d → Wd b d → Wd (a ++ b) d
  | N, [], b, d, _, _, _, h => by simpa using h
  | N + 1, x :: r, b, d, hN, hm, ha, hb => by
    simp only [List.length_cons] at hN
    have hr : ∀ y ∈ r, mayS y = true := fun y hy => hm y (by simp [hy])
    unfold Wd at ha ⊢
    rw [wellW] at ha
    rw [List.cons_append, wellW]
    by_cases h4 : x.d = 4 ∧ x.a > (r.length : Int)
    · rw [if_pos h4] at ha; cases ha.1
    rw [if_neg h4] at ha
    have h4' : ¬ (x.d = 4 ∧ x.a > ((r ++ b).length : Int)) := fun h => h4 ⟨h.1, by have := h.2; simp at this; omega⟩
    rw [if_neg h4']
    by_cases h7 : x.d ≠ 7
    · rw [if_pos h7] at ha ⊢
      exact Wd.app N r b d (by omega) hr ha hb
    rw [if_neg h7] at ha ⊢
    obtain ⟨a1, a2, b1, b2⟩ := (mayS_rng (hm x (by simp))).2 (by omega)
    by_cases hf : x.a + x.b > (r.length : Int)
    · rw [if_pos hf] at ha; cases ha.1
    rw [if_neg hf] at ha
    rw [if_neg (by simp; omega)]
    simp only [Bool.and_eq_true] at ha ⊢
    obtain ⟨⟨⟨w1, w2⟩, w3⟩, w4⟩ := ha
    have e1 : (r ++ b).take x.a.toNat = r.take x.a.toNat := List.take_append_of_le_length (by omega)
    have e2 : ((r ++ b).drop x.a.toNat).take x.b.toNat = (r.drop x.a.toNat).take x.b.toNat := by
      rw [List.drop_append_of_le_length (by omega), List.take_append_of_le_length (by simp; omega)]
    have e3 : (r ++ b).drop (x.a + x.b).toNat = r.drop (x.a + x.b).toNat ++ b := List.drop_append_of_le_length (by omega)
    rw [e1, e2, e3]
    have i3 := Wd.app N (r.drop (x.a + x.b).toNat) b d (by simp; omega) (fun y hy => hr y (List.mem_of_mem_drop hy)) ⟨w3, by omega⟩ hb
    exact ⟨⟨⟨w1, w2⟩, i3.1⟩, by have := i3.2; omega⟩

theorem Wd.tail {x : St} {r : List St} {d : Int} (hm : ∀ y ∈ x :: r, mayS y = true) (h : Wd (x :: r) d) : Wd r d ∧ (x.d = 4 → x.a ≤ (r.length : Int)) ∧
    (x.d = 7 → x.a + x.b ≤ (r.length : Int) ∧ Wd (r.take x.a.toNat) (d - 1) ∧ Wd ((r.drop x.a.toNat).take x.b.toNat) (d - 1) ∧ Wd (r.drop (x.a + x.b).toNat) d) := by
  have hr : ∀ y ∈ r, mayS y = true := fun y hy => hm y (by simp [hy])
  unfold Wd at h
  rw [wellW] at h
  by_cases h4 : x.d = 4 ∧ x.a > (r.length : Int)
  · rw [if_pos h4] at h; cases h.1
  rw [if_neg h4] at h
  by_cases h7 : x.d ≠ 7
  · rw [if_pos h7] at h
    exact ⟨h, fun e => by have : ¬ x.a > (r.length : Int) := fun hh => h4 ⟨e, hh⟩; omega, fun e => absurd e h7⟩
  rw [if_neg h7] at h
  have e7 : x.d = 7 := by omega
  obtain ⟨a1, a2, b1, b2⟩ := (mayS_rng (hm x (by simp))).2 e7
  by_cases hf : x.a + x.b > (r.length : Int)
  · rw [if_pos hf] at h; cases h.1
  rw [if_neg hf] at h
  simp only [Bool.and_eq_true] at h
  obtain ⟨⟨⟨w1, w2⟩, w3⟩, w4⟩ := h
  have p1 : Wd (r.take x.a.toNat) (d - 1) := ⟨w1, by omega⟩
  have p2 : Wd ((r.drop x.a.toNat).take x.b.toNat) (d - 1) := ⟨w2, by omega⟩
  have p3 : Wd (r.drop (x.a + x.b).toNat) d := ⟨w3, by omega⟩
  refine ⟨?_, fun e => by omega, fun _ => ⟨by omega, p1, p2, p3⟩⟩
  have es : r = r.take x.a.toNat ++ ((r.drop x.a.toNat).take x.b.toNat ++ r.drop (x.a + x.b).toNat) := by
    have : r.drop (x.a + x.b).toNat = (r.drop x.a.toNat).drop x.b.toNat := by rw [List.drop_drop]; congr 1; omega
    rw [this, List.take_append_drop, List.take_append_drop]
  rw [es]
  exact Wd.app _ _ _ _ (Nat.le_refl _) (fun y hy => hr y (List.mem_of_mem_take hy)) (p1.mono (by omega)) (Wd.app _ _ _ _ (Nat.le_refl _) (fun y hy => hr y (List.mem_of_mem_drop (List.mem_of_mem_take hy))) (p2.mono (by omega)) p3)

theorem Wd.drop {d : Int} : ∀ (k : Nat) (l : List St), (∀ y ∈ l, mayS y = true) → Wd l d → Wd (l.drop k) d
  | 0, l, _, h => by simpa using h
  | k + 1, [], _, h => by simpa using h
  | k + 1, x :: r, hm, h => by
    rw [List.drop_succ_cons]
    exact Wd.drop k r (fun y hy => hm y (by simp [hy])) (Wd.tail hm h).1

/-- The steps from a place up to another one. -/
def WellP (c : List St) (a b : Nat) (d : Int) : Prop := a ≤ b ∧ b ≤ c.length ∧ Wd ((c.take b).drop a) d

theorem WellP.mono {c : List St} {a b : Nat} {d e : Int} (h : WellP c a b d) (hd : d ≤ e) : WellP c a b e := ⟨h.1, h.2.1, h.2.2.mono hd⟩

theorem WellP.trans {c : List St} (hm : ∀ x ∈ c, mayS x = true) {a b e : Nat} {d : Int} (h : WellP c a b d) (h' : WellP c b e d) : WellP c a e d := by
  obtain ⟨h1, h2, h3⟩ := h
  obtain ⟨k1, k2, k3⟩ := h'
  refine ⟨by omega, k2, ?_⟩
  have : (c.take e).drop a = (c.take b).drop a ++ (c.take e).drop b := by
    have e1 : c.take b = (c.take e).take b := by rw [List.take_take, Nat.min_eq_left k1]
    have e2 : (c.take b).drop a = ((c.take e).drop a).take (b - a) := by rw [e1, List.drop_take]
    have e3 : (c.take e).drop b = ((c.take e).drop a).drop (b - a) := by rw [List.drop_drop]; congr 1; omega
    rw [e2, e3, List.take_append_drop]
  rw [this]
  exact Wd.app _ _ _ _ (Nat.le_refl _) (fun x hx => hm x (List.mem_of_mem_take (List.mem_of_mem_drop hx))) h3 k3

theorem WellP.step {c : List St} (hm : ∀ x ∈ c, mayS x = true) {a b : Nat} {d : Int} (h : WellP c a b d) (hab : a < b) {x : St} (hx : c[a]? = some x) : WellP c (a + 1) b d ∧ (x.d = 4 → WellP c (a + 1 + x.a.toNat) b d) ∧
    (x.d = 7 → WellP c (a + 1) (a + 1 + x.a.toNat) (d - 1) ∧ WellP c (a + 1 + x.a.toNat) (a + 1 + x.a.toNat + x.b.toNat) (d - 1) ∧ WellP c (a + 1 + x.a.toNat + x.b.toNat) b d) := by
  obtain ⟨h1, h2, h3⟩ := h
  have hlt : a < (c.take b).length := by simp; omega
  have hdr : (c.take b).drop a = x :: (c.take b).drop (a + 1) := by
    rw [List.drop_eq_getElem_cons hlt]
    congr 1
    have := List.getElem?_eq_some_iff.1 hx
    rw [List.getElem_take]
    exact this.2
  rw [hdr] at h3
  have hmm : ∀ y ∈ x :: (c.take b).drop (a + 1), mayS y = true := fun y hy => by
    rw [← hdr] at hy
    exact hm y (List.mem_of_mem_take (List.mem_of_mem_drop hy))
  obtain ⟨w1, w2, w3⟩ := h3.tail hmm
  have hl : ((c.take b).drop (a + 1)).length = b - (a + 1) := by simp; omega
  rw [hl] at w2 w3
  refine ⟨⟨by omega, h2, w1⟩, fun e => ?_, fun e => ?_⟩
  · have h4 := w2 e
    refine ⟨by omega, h2, ?_⟩
    have := Wd.drop x.a.toNat _ (fun y hy => hmm y (by simp [hy])) w1
    rwa [List.drop_drop] at this
  · obtain ⟨q1, q2, q3, q4⟩ := w3 e
    obtain ⟨a1, a2, b1, b2⟩ := (mayS_rng (hmm x (by simp))).2 e
    have ek : (x.a + x.b).toNat = x.a.toNat + x.b.toNat := by omega
    refine ⟨⟨by omega, by omega, ?_⟩, ⟨by omega, by omega, ?_⟩, ⟨by omega, h2, ?_⟩⟩
    · have : (c.take (a + 1 + x.a.toNat)).drop (a + 1) = ((c.take b).drop (a + 1)).take x.a.toNat := by
        rw [List.take_drop, List.take_take, Nat.min_eq_left (by omega)]
      rw [this]; exact q2
    · have : (c.take (a + 1 + x.a.toNat + x.b.toNat)).drop (a + 1 + x.a.toNat) = (((c.take b).drop (a + 1)).drop x.a.toNat).take x.b.toNat := by
        rw [List.drop_drop, List.take_drop, List.take_take, Nat.min_eq_left (by omega)]
      rw [this]; exact q3
    · rw [ek, List.drop_drop] at q4
      have : a + 1 + x.a.toNat + x.b.toNat = a + 1 + (x.a.toNat + x.b.toNat) := by omega
      rw [this]; exact q4
end Go.Proofs.YtjhfpabldidlgaaGreat.AM

/- A try: what always holds of it. -/
set_option linter.all false
set_option maxRecDepth 100000
set_option maxHeartbeats 4000000
namespace Go.Proofs.YtjhfpabldidlgaaGreat.AM
open Go Go.RowKit

/-! ### logs -/
theorem qsrt_snoc : ∀ (l : List Int) (x : Int), srt l = true → (∀ y ∈ l, y ≤ x) → srt (l ++ [x]) = true
  | [], x, _, _ => rfl
  | [a], x, _, h => by simp [srt]; exact h a (by simp)
  | a :: b :: r, x, hs, h => by
    simp only [srt, Bool.and_eq_true, decide_eq_true_eq] at hs
    have := qsrt_snoc (b :: r) x hs.2 (fun y hy => h y (by simp at hy ⊢; exact .inr hy))
    simp only [List.cons_append] at this ⊢
    simp only [srt, Bool.and_eq_true, decide_eq_true_eq]
    exact ⟨hs.1, this⟩
theorem qsrt_le : ∀ {ms : List Int} {x : Int}, srt (ms ++ [x]) = true → srt ms = true ∧ ∀ y ∈ ms, y ≤ x
  | [], x, _ => ⟨rfl, by simp⟩
  | [a], x, h => by simp [srt] at h; exact ⟨rfl, by simp; exact h⟩
  | a :: b :: r, x, h => by
    simp only [List.cons_append, srt, Bool.and_eq_true, decide_eq_true_eq] at h
    obtain ⟨h1, h2⟩ := qsrt_le (ms := b :: r) (by simpa only [List.cons_append] using h.2)
    refine ⟨by simp only [srt, Bool.and_eq_true, decide_eq_true_eq]; exact ⟨h.1, h1⟩, fun y hy => ?_⟩
    rcases List.mem_cons.1 hy with rfl | hy
    · exact Int.le_trans h.1 (h2 b (by simp))
    · exact h2 y hy
theorem qlogR {L : Lg} : logR L = true ↔ L.1.length ≤ 24 ∧ L.2.length ≤ 6 ∧ (∀ w ∈ L.1, wrongW w = false) ∧ (∀ x ∈ L.2, 0 ≤ x ∧ x ≤ (L.1.length : Int)) ∧ srt L.2 = true := by
  simp only [logR, Bool.and_eq_true, decide_eq_true_eq, Bool.not_eq_eq_eq_not, Bool.not_true, List.any_eq_false]
  constructor
  · rintro ⟨⟨⟨⟨a1, a2⟩, a3⟩, a4⟩, a5⟩
    exact ⟨a1, a2, fun w hw => by simpa using a3 w hw, fun x hx => by have := a4 x hx; simp [offI] at this; omega, a5⟩
  · rintro ⟨a1, a2, a3, a4, a5⟩
    exact ⟨⟨⟨⟨a1, a2⟩, fun w hw => by simpa using a3 w hw⟩, fun x hx => by have := a4 x hx; simp [offI]; omega⟩, a5⟩
theorem qput {l : Lg} {w : Int × Int} (h : logR l = true) : logR (logPut l w).1 = true ∧ (logPut l w).1.2 = l.2 := by
  obtain ⟨a1, a2, a3, a4, a5⟩ := qlogR.1 h
  unfold logPut
  split
  · rename_i hw
    split
    · exact ⟨h, rfl⟩
    · rename_i hl
      refine ⟨qlogR.2 ⟨by simp; omega, a2, fun x hx => ?_, fun x hx => ?_, a5⟩, rfl⟩
      · rcases List.mem_append.1 hx with hx | hx
        · exact a3 x hx
        · rw [List.mem_singleton.1 hx]; exact hw.2
      · have := a4 x hx; simp only [List.length_append, List.length_singleton]; omega
  · exact ⟨h, rfl⟩
theorem qmark {l : Lg} (h : logR l = true) (hl : l.2.length < 6) : logR (logMark l).1 = true ∧ (logMark l).1.2.length = l.2.length + 1 := by
  obtain ⟨a1, a2, a3, a4, a5⟩ := qlogR.1 h
  unfold logMark
  rw [if_pos h, if_neg (by omega)]
  refine ⟨qlogR.2 ⟨a1, by simp; omega, a3, fun x hx => ?_, qsrt_snoc _ _ a5 (fun y hy => (a4 y hy).2)⟩, by simp⟩
  rcases List.mem_append.1 hx with hx | hx
  · exact a4 x hx
  · rw [List.mem_singleton.1 hx]; simp only; omega
theorem qmarked {l : Lg} (h : logR l = true) (hl : l.2 ≠ []) : logMarked l = 0 := by
  unfold logMarked
  rw [if_pos h, if_neg (fun e => hl (List.length_eq_zero_iff.1 e))]
theorem qback {l : Lg} (h : logR l = true) (hl : l.2 ≠ []) : (logR (logKeep l).1 = true ∧ (logKeep l).1.2 = l.2.dropLast) ∧ (logR (logBack l).1 = true ∧ (logBack l).1.2 = l.2.dropLast) := by
  obtain ⟨a1, a2, a3, a4, a5⟩ := qlogR.1 h
  obtain ⟨ms, x, e⟩ : ∃ ms x, l.2 = ms ++ [x] := ⟨l.2.dropLast, l.2.getLast hl, (List.dropLast_concat_getLast hl).symm⟩
  have hm := qmarked h hl
  unfold logKeep logBack
  rw [if_pos hm, if_pos hm]
  rw [e] at a2 a4 a5
  obtain ⟨s1, s2⟩ := qsrt_le a5
  have hx := a4 x (by simp)
  simp only [List.length_append, List.length_singleton] at a2
  simp only [e, List.dropLast_concat, List.getLast?_concat, Option.getD_some]
  refine ⟨⟨qlogR.2 ⟨a1, by simp only; omega, a3, fun y hy => a4 y (by simp [hy]), s1⟩, trivial⟩, ⟨qlogR.2 ⟨by simp only [List.length_take]; omega, by simp only; omega, fun w hw => a3 w (List.mem_of_mem_take hw), fun y hy => ?_, s1⟩, trivial⟩⟩
  have h1 := a4 y (by simp [hy])
  have h2 := s2 y hy
  simp only [List.length_take] at *
  omega

/-! ### frames -/
def cntE (c : List St) (n : Nat) : Nat := ((c.take n).filter fun s => s.d == 7).length
theorem cntE_succ {c : List St} {a : Nat} {x : St} (hx : c[a]? = some x) : cntE c (a + 1) = cntE c a + (if x.d = 7 then 1 else 0) := by
  unfold cntE
  rw [List.take_succ, hx]
  simp only [Option.toList_some, List.filter_append, List.length_append, List.filter_cons, List.filter_nil]
  by_cases h : x.d = 7 <;> simp [h]
theorem cntE_mono {c : List St} {a b : Nat} (h : a ≤ b) : cntE c a ≤ cntE c b := by
  unfold cntE
  have : c.take a = (c.take b).take a := by rw [List.take_take, Nat.min_eq_left h]
  rw [this]
  exact List.Sublist.length_le (List.Sublist.filter _ (List.take_sublist _ _))

/-- Frames, the last one first. -/
def FrOk (c : List St) : Nat → List Int → List Fr → Prop
  | a, p, [] => WellP c a c.length 6
  | a, p, f :: fs => ∃ m e k : Nat, f.mid = m ∧ f.fin = e ∧ f.long = k ∧ p[k]? = some 1 ∧ k + 1 ≤ cntE c m ∧ f.regs.length = 8 ∧ WellP c a m (5 - fs.length) ∧ WellP c m e (6 - fs.length) ∧ FrOk c e (p.take k) fs

theorem FrOk.path {c : List St} {a : Nat} {p q : List Int} {fs : List Fr} (hp : p <+: q) (h : FrOk c a p fs) : FrOk c a q fs := by
  cases fs with
  | nil => exact h
  | cons f fs =>
    obtain ⟨m, e, k, h1, h2, h3, h4, h5, h6, h7, h8, h9⟩ := h
    obtain ⟨r, rfl⟩ := hp
    have hk : k < p.length := (List.getElem?_eq_some_iff.1 h4).1
    refine ⟨m, e, k, h1, h2, h3, ?_, h5, h6, h7, h8, ?_⟩
    · rw [List.getElem?_append_left hk]; exact h4
    · rw [List.take_append_of_le_length (by omega)]; exact h9

theorem FrOk.back {c : List St} (hm : ∀ x ∈ c, mayS x = true) {a b : Nat} {p : List Int} {fs : List Fr} (hw : WellP c a b (6 - fs.length)) (h : FrOk c b p fs) : FrOk c a p fs := by
  cases fs with
  | nil => exact WellP.trans hm (by simpa using hw) h
  | cons f fs =>
    obtain ⟨m, e, k, h1, h2, h3, h4, h5, h6, h7, h8, h9⟩ := h
    have e1 : (6 - ((f :: fs).length : Int)) = 5 - (fs.length : Int) := by simp only [List.length_cons]; omega
    rw [e1] at hw
    exact ⟨m, e, k, h1, h2, h3, h4, h5, h6, WellP.trans hm hw h7, h8, h9⟩

/-- Ahead of a step: it stands in a part. -/
theorem FrOk.part {c : List St} {a : Nat} {p : List Int} {fs : List Fr} (h : FrOk c a p fs) (hl : a < c.length) (hs : ∀ f r, fs = f :: r → f.mid ≠ (a : Int)) :
    ∃ b, a < b ∧ WellP c a b (6 - fs.length) ∧ (∀ a', WellP c a' b (6 - fs.length) → FrOk c a' p fs) := by
  cases fs with
  | nil => exact ⟨c.length, hl, by simpa [FrOk] using h, fun a' h' => by simpa [FrOk] using h'⟩
  | cons f fs =>
    obtain ⟨m, e, k, h1, h2, h3, h4, h5, h6, h7, h8, h9⟩ := h
    have e1 : (6 - ((f :: fs).length : Int)) = 5 - (fs.length : Int) := by simp only [List.length_cons]; omega
    refine ⟨m, ?_, by rw [e1]; exact h7, fun a' h' => ⟨m, e, k, h1, h2, h3, h4, h5, h6, by rw [e1] at h'; exact h', h8, h9⟩⟩
    have := hs f fs rfl
    have := h7.1
    omega

/-! ### what was read -/
theorem readsR_parts {l : List Rd} : readsR l = true ↔ (∀ r ∈ l, rightRd r = true) ∧ (l.map fun r => r.1).Nodup ∧ l.length ≤ 24 := by
  simp [readsR, and_assoc]
theorem readsR_snoc {l : List Rd} {r : Rd} (h : readsR l = true) (hr : rightRd r = true) (hn : l.find? (fun x => x.1 == r.1) = none) (hl : l.length < 24) : readsR (l ++ [r]) = true := by
  obtain ⟨h1, h2, h3⟩ := readsR_parts.1 h
  refine readsR_parts.2 ⟨fun x hx => ?_, ?_, by simp; omega⟩
  · rcases List.mem_append.1 hx with hx | hx
    · exact h1 x hx
    · rw [List.mem_singleton.1 hx]; exact hr
  · rw [List.map_append, List.nodup_append]
    refine ⟨h2, by simp, fun x hx y hy => ?_⟩
    simp at hy
    subst hy
    obtain ⟨z, hz, rfl⟩ := List.mem_map.1 hx
    rw [List.find?_eq_none] at hn
    have := hn z hz
    simpa using this

/-- What always holds. -/
structure InvT (c : List St) (t : Ty) : Prop where
  pc0 : 0 ≤ t.pc
  pcl : t.pc ≤ c.length
  regs : t.regs.length = 8
  log : logR t.log = true
  rds : readsR t.reads = true
  rlen : (t.reads.length : Int) ≤ t.pc
  ver : ∀ x ∈ t.reads, x.2.1 ≤ t.snap
  marks : t.log.2.length = t.frames.length
  fr : FrOk c t.pc.toNat t.path t.frames.reverse
  pth : t.path.length ≤ cntE c t.pc.toNat
  alt : ∀ n ∈ t.path, n = 1 ∨ n = 2
/-- And once it is settled. -/
structure InvS (c : List St) (t : Ty) : Prop extends InvT c t where
  run : t.kind = 0 → t.pc < c.length ∧ ∀ f r, t.frames.reverse = f :: r → f.mid ≠ t.pc

/-- A code. -/
structure CodeOk (c : List St) : Prop where
  may : ∀ x ∈ c, mayS x = true
  len : c.length ≤ 24
  well : WellP c 0 c.length 6

theorem CodeOk.of {c : List St} (h : codeC c = 0) : CodeOk c := by
  unfold codeC at h
  split at h
  · simp at h
  · rename_i h1
    split at h
    · simp at h
    · rename_i h2
      split at h
      · simp at h
      · rename_i h3
        simp only [not_or, Nat.not_lt, List.any_eq_true, Bool.not_eq_true', not_exists, not_and, gt_iff_lt] at h1
        refine ⟨fun x hx => by have := h1.2 x hx; simpa using this, h1.1, ⟨Nat.zero_le _, Nat.le_refl _, ?_⟩⟩
        rw [List.take_length, List.drop_zero]
        exact ⟨by simpa using h2, by omega⟩

theorem reverse_split {α : Type} {l : List α} {f : α} {r : List α} (h : l.reverse = f :: r) : l.dropLast.reverse = r ∧ l.getLast? = some f ∧ l[l.length - 1]? = some f ∧ 0 < l.length ∧ l.dropLast.length + 1 = l.length := by
  have e : l = r.reverse ++ [f] := by rw [← List.reverse_reverse l, h, List.reverse_cons]
  subst e
  refine ⟨by simp, by simp, by simp, by simp, by simp⟩

/-- A frame that ends here ends. -/
theorem InvT.pop {c : List St} {t : Ty} (h : InvT c t) {f : Fr} {r : List Fr} (hf : t.frames.reverse = f :: r) (hm : f.mid = t.pc) : InvT c (popT t f) := by
  obtain ⟨s1, s2, s3, s4, s5⟩ := reverse_split hf
  have hfr := h.fr
  rw [hf] at hfr
  obtain ⟨m, e, k, h1, h2, h3, h4, h5, h6, h7, h8, h9⟩ := hfr
  have hne : t.log.2 ≠ [] := fun e => by have := h.marks; rw [e] at this; simp at this; omega
  obtain ⟨⟨q1, q2⟩, _⟩ := qback h.log hne
  have hme := h8.1
  have hel := h8.2.1
  have hpc := h.pc0
  have e1 : t.pc.toNat = m := by omega
  refine ⟨by simp only [popT, h2]; omega, by simp only [popT, h2]; omega, h.regs, q1, h.rds, ?_, h.ver, ?_, ?_, ?_, h.alt⟩
  · simp only [popT, h2]; have := h.rlen; omega
  · simp only [popT, q2, List.length_dropLast, h.marks]
  · simp only [popT, h2, Int.toNat_natCast, s1]
    exact h9.path (List.take_prefix _ _)
  · simp only [popT, h2, Int.toNat_natCast]
    have := h.pth
    rw [e1] at this
    exact Nat.le_trans this (cntE_mono hme)

theorem setF_ok {c : List St} : ∀ (n : Nat) (t : Ty), t.frames.length = n → InvT c t → InvT c (setF n t) ∧ (∀ f r, (setF n t).frames.reverse = f :: r → f.mid ≠ (setF n t).pc) ∧ (setF n t).kind = t.kind ∧ (setF n t).why = t.why ∧ (setF n t).snap = t.snap ∧ (setF n t).who = t.who ∧ (setF n t).reads = t.reads ∧ t.pc ≤ (setF n t).pc
  | 0, t, hn, h => by
    refine ⟨h, fun f r e => ?_, rfl, rfl, rfl, rfl, rfl, Int.le_refl _⟩
    simp only [setF] at e
    have := List.length_eq_zero_iff.1 hn
    rw [this] at e; simp at e
  | n + 1, t, hn, h => by
    obtain ⟨f, r, hf⟩ : ∃ f r, t.frames.reverse = f :: r := by
      cases hr : t.frames.reverse with
      | nil => have := congrArg List.length hr; simp at this; rw [this] at hn; simp at hn
      | cons f r => exact ⟨f, r, rfl⟩
    obtain ⟨s1, s2, s3, s4, s5⟩ := reverse_split hf
    rw [hn] at s3
    simp only [Nat.add_sub_cancel] at s3
    rw [setF, s3]
    simp only
    by_cases hm : f.mid = t.pc
    · rw [if_pos hm]
      have hp := h.pop hf hm
      obtain ⟨g1, g2, g3, g4, g5, g6, g7, g8⟩ := setF_ok n (popT t f) (by simp [popT]; omega) hp
      refine ⟨g1, g2, g3, g4, g5, g6, g7, ?_⟩
      have hfr := h.fr
      rw [hf] at hfr
      obtain ⟨m, e, k, h1, h2, h3, h4, h5, h6, h7, h8, h9⟩ := hfr
      have := h8.1
      have : t.pc ≤ (popT t f).pc := by simp only [popT, h2]; omega
      omega
    · rw [if_neg hm]
      refine ⟨h, fun f' r' e => ?_, rfl, rfl, rfl, rfl, rfl, Int.le_refl _⟩
      rw [hf] at e
      cases e
      exact hm

theorem setT_ok {c : List St} {t : Ty} (h : InvT c t) (hk : t.kind = 0) : InvS c (setT c.length t) ∧ (setT c.length t).snap = t.snap ∧ (setT c.length t).reads = t.reads ∧ t.pc ≤ (setT c.length t).pc ∧ ((setT c.length t).kind = 0 ∨ (setT c.length t).kind = 1) := by
  obtain ⟨g1, g2, g3, g4, g5, g6, g7, g8⟩ := setF_ok t.frames.length t rfl h
  unfold setT doneT
  split
  · rename_i hd
    exact ⟨⟨⟨g1.pc0, g1.pcl, g1.regs, g1.log, g1.rds, g1.rlen, g1.ver, g1.marks, g1.fr, g1.pth, g1.alt⟩, fun h => by simp at h⟩, g5, g7, g8, .inr rfl⟩
  · rename_i hd
    have := g1.pcl
    exact ⟨⟨g1, fun _ => ⟨by omega, g2⟩⟩, g5, g7, g8, .inl (by rw [g3, hk])⟩

theorem new_ok {c : List St} (hc : CodeOk c) (who snap : Int) : InvT c (newT who snap) := by
  refine ⟨by simp [newT, zeroT], by simp [newT, zeroT], by simp [newT], by show logR ([], []) = true; decide, by show readsR [] = true; decide, by simp [newT, zeroT], by simp [newT, zeroT], rfl, ?_, by simp [newT, zeroT], by simp [newT, zeroT]⟩
  simp only [newT, zeroT, List.reverse_nil, FrOk, Int.toNat_zero]
  exact hc.well

theorem heapGet_0 {h : List (Bool × Int)} {c : Int} (h0 : (heapGet h c).2 = 0) : heapR h = true ∧ thereB h c = true ∧ spanR (heapGet h c).1 = true ∧ 0 ≤ c ∧ c < h.length := by
  unfold heapGet at *
  split at h0
  · rename_i hr
    rw [if_pos hr]
    split at h0
    · rename_i ht
      rw [if_pos ht]
      obtain ⟨k, v, rfl, hk, hg⟩ := thereB_get ht
      refine ⟨hr, ht, ?_, by omega, by omega⟩
      simp only [Int.toNat_natCast, hg, Option.getD_some]
      simp only [heapR, Bool.and_eq_true, Bool.not_eq_true', List.any_eq_false] at hr
      have := hr.2 _ (List.mem_of_getElem? hg)
      simp [wrongC] at this
      exact this
    · simp at h0
  · simp at h0

theorem recR_in {r : List (Int × Int)} (h : tableR r = true) {c : Int} (hc : 0 ≤ c) : recR r c ∈ r ∧ 0 ≤ (recR r c).1 ∧ (recR r c).1 ≤ 2147483647 ∧ 0 ≤ (recR r c).2 ∧ (recR r c).2 ≤ 8 ∧ 0 ≤ c.tmod r.length ∧ c.tmod r.length < r.length := by
  simp only [tableR, Bool.and_eq_true, decide_eq_true_eq, Bool.not_eq_true', List.any_eq_false] at h
  obtain ⟨⟨h1, h2⟩, h3⟩ := h
  have hm0 : 0 ≤ c.tmod r.length := Int.tmod_nonneg _ hc
  have hm1 : c.tmod r.length < r.length := Int.tmod_lt_of_pos _ (by omega)
  have hlt : (c.tmod r.length).toNat < r.length := by omega
  have e : recR r c = r[(c.tmod r.length).toNat] := by unfold recR; rw [List.getElem?_eq_getElem hlt]; rfl
  have hin : recR r c ∈ r := by rw [e]; exact List.getElem_mem hlt
  have := h3 _ hin
  simp only [wrongR, Bool.or_eq_true, decide_eq_true_eq, not_or, Int.not_lt] at this
  exact ⟨hin, by omega, by omega, by omega, by omega, hm0, hm1⟩

/-- A step of a try that runs: what holds still does. -/
theorem InvS.doT {c : List St} (hc : CodeOk c) {t : Ty} (h : InvS c t) {h' : List (Bool × Int)} {r : List (Int × Int)} (hmay : mayT t h' r = true) {s : St} (hs : c[t.pc.toNat]? = some s) :
    InvT c (doT t s h' r) ∧ (doT t s h' r).snap = t.snap ∧ ((doT t s h' r).kind = 0 → t.pc < (doT t s h' r).pc) ∧ t.pc ≤ (doT t s h' r).pc := by
  simp only [mayT, Bool.and_eq_true, decide_eq_true_eq] at hmay
  obtain ⟨⟨hh, hr⟩, hk⟩ := hmay
  obtain ⟨hlt, hst⟩ := h.run hk
  have hpc0 := h.pc0
  have ea : ((t.pc.toNat : Nat) : Int) = t.pc := by omega
  obtain ⟨b, hb1, hb2, hb3⟩ := h.fr.part (by omega) (fun f r e => by rw [ea]; exact hst f r e)
  obtain ⟨w1, w2, w3⟩ := hb2.step hc.may hb1 hs
  have hms := hc.may s (List.mem_of_getElem? hs)
  obtain ⟨g4, g7⟩ := mayS_rng hms
  have en : (t.pc + 1).toNat = t.pc.toNat + 1 := by omega
  have hrl := h.rlen
  have hcnt : cntE c t.pc.toNat ≤ cntE c (t.pc.toNat + 1) := cntE_mono (by omega)
  have hpth := h.pth
  have fr1 : FrOk c (t.pc + 1).toNat t.path t.frames.reverse := by rw [en]; exact hb3 _ w1
  have hend : ∀ k w, InvT c (endT t k w) := fun k w => ⟨h.pc0, h.pcl, h.regs, h.log, h.rds, h.rlen, h.ver, h.marks, h.fr, h.pth, h.alt⟩
  have hput : ∀ a v, InvT c (putT t a v) := fun a v => ⟨by simp only [putT]; omega, by simp only [putT]; omega, by simp [putT, h.regs], h.log, h.rds, by simp only [putT]; omega, h.ver, h.marks, fr1, by simp only [putT, en]; omega, h.alt⟩
  unfold AM.doT
  split
  · -- load
    rename_i h1
    unfold loadT
    split
    · exact ⟨hend _ _, rfl, by simp [endT], Int.le_refl _⟩
    · rename_i hg
      simp only [ne_eq, Decidable.not_not] at hg
      split
      · exact ⟨hput _ _, rfl, fun _ => by simp only [putT]; omega, by simp only [putT]; omega⟩
      · split
        · exact ⟨hput _ _, rfl, fun _ => by simp only [putT]; omega, by simp only [putT]; omega⟩
        · rename_i hfn
          split
          · exact ⟨hend _ _, rfl, by simp [endT], Int.le_refl _⟩
          · rename_i hno
            obtain ⟨z1, z2, z3, z4, z5⟩ := heapGet_0 hg
            obtain ⟨y1, y2, y3, y4, y5, _⟩ := recR_in hr z4
            refine ⟨⟨by simp only [putT]; omega, by simp only [putT]; omega, by simp [putT, h.regs], h.log, ?_, by simp [putT]; omega, ?_, h.marks, fr1, by simp only [putT, en]; omega, h.alt⟩, rfl, fun _ => by simp only [putT]; omega, by simp only [putT]; omega⟩
            · refine readsR_snoc h.rds ?_ hfn ?_
              · simp only [rightRd, tickR, Bool.and_eq_true, decide_eq_true_eq]
                exact ⟨⟨z4, y2, y3⟩, z3⟩
              · have := hc.len; omega
            · intro x hx
              simp only [putT] at hx ⊢
              rcases List.mem_append.1 hx with hx | hx
              · exact h.ver x hx
              · rw [List.mem_singleton.1 hx]
                simp only
                omega
  · split
    · exact ⟨hput _ _, rfl, fun _ => by simp only [putT]; omega, by simp only [putT]; omega⟩
    · split
      · unfold storeT
        split
        · exact ⟨hend _ _, rfl, by simp [endT], Int.le_refl _⟩
        · obtain ⟨q1, q2⟩ := qput (w := (s.a, tellT t h' s.t)) h.log
          exact ⟨⟨by simp only; omega, by simp only; omega, h.regs, q1, h.rds, by simp only; omega, h.ver, by simp only [q2]; exact h.marks, fr1, by simp only [en]; omega, h.alt⟩, rfl, fun _ => by simp only; omega, by simp only; omega⟩
      · split
        · rename_i h4
          have q4 := g4 h4
          have q5 := w2 h4
          unfold skipT
          have hbl := q5.1
          have hbl2 := q5.2.1
          split
          · have es : (t.pc + 1 + s.a).toNat = t.pc.toNat + 1 + s.a.toNat := by omega
            refine ⟨⟨by simp only; omega, by simp only; omega, h.regs, h.log, h.rds, by simp only; omega, h.ver, h.marks, ?_, ?_, h.alt⟩, rfl, fun _ => by simp only; omega, by simp only; omega⟩
            · simp only [es]; exact hb3 _ q5
            · simp only [es]; have : cntE c t.pc.toNat ≤ cntE c (t.pc.toNat + 1 + s.a.toNat) := cntE_mono (by omega)
              omega
          · exact ⟨⟨by simp only; omega, by simp only; omega, h.regs, h.log, h.rds, by simp only; omega, h.ver, h.marks, fr1, by simp only [en]; omega, h.alt⟩, rfl, fun _ => by simp only; omega, by simp only; omega⟩
        · split
          · unfold agT
            cases hrv : t.frames.reverse with
            | nil =>
              have : t.frames = [] := by simpa using hrv
              rw [this]
              exact ⟨hend _ _, rfl, by simp [endT], Int.le_refl _⟩
            | cons f fs =>
              obtain ⟨s1, s2, s3, s4, s5⟩ := reverse_split hrv
              rw [s2]
              simp only
              have hfr := h.fr
              rw [hrv] at hfr
              obtain ⟨m, e, k, h1, h2, h3, h4, h5, h6, h7, h8, h9⟩ := hfr
              have hne : t.log.2 ≠ [] := fun e => by have := h.marks; rw [e] at this; simp at this; omega
              obtain ⟨_, q1, q2⟩ := qback h.log hne
              have hme := h7.1
              have hml := h7.2.1
              have hne2 := hst f fs hrv
              have hk : k < t.path.length := (List.getElem?_eq_some_iff.1 h4).1
              refine ⟨⟨by simp only [h1]; omega, by simp only [h1]; omega, h6, q1, h.rds, by simp only [h1]; omega, h.ver, by simp only [q2, List.length_dropLast, h.marks], ?_, ?_, ?_⟩, by trivial, fun _ => by simp only [h1]; omega, by simp only [h1]; omega⟩
              · simp only [h1, h3, Int.toNat_natCast, s1]
                exact (FrOk.back hc.may h8 h9).path (List.prefix_append _ _)
              · simp only [h1, h3, Int.toNat_natCast, List.length_append, List.length_take, List.length_singleton]
                omega
              · intro n hn
                simp only at hn
                rcases List.mem_append.1 hn with hn | hn
                · exact h.alt n (List.mem_of_mem_take hn)
                · rw [List.mem_singleton.1 hn]; exact .inr rfl
          · split
            · exact ⟨hend _ _, rfl, by simp [endT], Int.le_refl _⟩
            · rename_i n1 n2 n3 n4 n5 n6
              have h7 : s.d = 7 := by
                unfold mayS at hms
                rw [if_neg n1, if_neg n2, if_neg n3, if_neg n4, if_neg n5, if_neg n6] at hms
                simp at hms
                omega
              obtain ⟨v1, v2, v3⟩ := w3 h7
              obtain ⟨a1, a2, b1, b2⟩ := g7 h7
              have hd0 := v1.2.2.pos (fun x hx => hc.may x (List.mem_of_mem_take (List.mem_of_mem_drop hx)))
              simp only [List.length_reverse] at hd0 v1 v2 v3
              have hmk := h.marks
              obtain ⟨q1, q2⟩ := qmark h.log (by omega)
              have hcs : cntE c (t.pc.toNat + 1) = cntE c t.pc.toNat + 1 := by rw [cntE_succ hs, if_pos h7]
              have em : (t.pc + 1 + s.a) = ((t.pc.toNat + 1 + s.a.toNat : Nat) : Int) := by omega
              have ef : (t.pc + 1 + s.a + s.b) = ((t.pc.toNat + 1 + s.a.toNat + s.b.toNat : Nat) : Int) := by omega
              unfold eiT
              refine ⟨⟨by simp only; omega, by simp only; omega, h.regs, q1, h.rds, by simp only; omega, h.ver, by simp only [q2, List.length_append, List.length_singleton, h.marks], ?_, ?_, ?_⟩, rfl, fun _ => by simp only; omega, by simp only; omega⟩
              · simp only [List.reverse_append, List.reverse_cons, List.reverse_nil, List.nil_append, List.cons_append, en]
                refine ⟨t.pc.toNat + 1 + s.a.toNat, t.pc.toNat + 1 + s.a.toNat + s.b.toNat, t.path.length, em, ef, rfl, by simp, ?_, h.regs, ?_, ?_, ?_⟩
                · have : cntE c (t.pc.toNat + 1) ≤ cntE c (t.pc.toNat + 1 + s.a.toNat) := cntE_mono (by omega)
                  omega
                · simp only [List.length_reverse]; exact v1.mono (by omega)
                · simp only [List.length_reverse]; exact v2.mono (by omega)
                · rw [List.take_append_of_le_length (Nat.le_refl _), List.take_length]
                  exact hb3 _ (by simp only [List.length_reverse]; exact v3)
              · simp only [en, List.length_append, List.length_singleton]; omega
              · intro n hn
                simp only at hn
                rcases List.mem_append.1 hn with hn | hn
                · exact h.alt n hn
                · rw [List.mem_singleton.1 hn]; exact .inl rfl

theorem doT_kind {t : Ty} {s : St} {h : List (Bool × Int)} {r : List (Int × Int)} (hk : t.kind = 0) : (doT t s h r).kind ≠ 0 → 2 ≤ (doT t s h r).kind ∧ (doT t s h r).kind ≤ 5 := by
  unfold doT loadT storeT skipT agT eiT
  repeat' split
  all_goals simp [endT, putT, hk]

theorem InvS.stp {c : List St} (hc : CodeOk c) {t : Ty} (h : InvS c t) {h' : List (Bool × Int)} {r : List (Int × Int)} (hmay : mayT t h' r = true) :
    InvS c (stpT t c h' r) ∧ (stpT t c h' r).snap = t.snap ∧ ((stpT t c h' r).kind = 0 → t.pc < (stpT t c h' r).pc) ∧ t.pc ≤ (stpT t c h' r).pc := by
  have hk : t.kind = 0 := by simp only [mayT, Bool.and_eq_true, decide_eq_true_eq] at hmay; exact hmay.2
  obtain ⟨hlt, hst⟩ := h.run hk
  have hpc0 := h.pc0
  have hl : t.pc.toNat < c.length := by omega
  have hs : c[t.pc.toNat]? = some c[t.pc.toNat] := List.getElem?_eq_getElem hl
  obtain ⟨g1, g2, g3, g4⟩ := h.doT hc hmay hs
  unfold stpT
  rw [hs]
  simp only
  split
  · rename_i hne
    exact ⟨⟨g1, fun e => absurd e hne⟩, g2, fun e => absurd e hne, g4⟩
  · rename_i he
    simp only [ne_eq, Decidable.not_not] at he
    obtain ⟨k1, k2, k3, k4, k5⟩ := setT_ok g1 he
    have := g3 he
    exact ⟨k1, by rw [k2, g2], fun _ => by omega, by omega⟩

theorem InvS.step {c : List St} (hc : CodeOk c) {t : Ty} (h : InvS c t) (h' : List (Bool × Int)) (r : List (Int × Int)) : InvS c (stepT t c h' r) ∧ (stepT t c h' r).snap = t.snap := by
  unfold stepT
  split
  · rename_i hm
    obtain ⟨k1, k2, _⟩ := h.stp hc hm
    exact ⟨k1, k2⟩
  · exact ⟨h, rfl⟩

theorem InvT.lens {c : List St} (hc : CodeOk c) {t : Ty} (h : InvT c t) : t.regs.length = 8 ∧ t.path.length ≤ 24 ∧ t.reads.length ≤ 24 ∧ t.log.1.length ≤ 24 ∧ t.log.2.length ≤ 6 ∧ t.frames.length ≤ 6 ∧ t.pc ≤ 24 ∧ 0 ≤ t.pc := by
  obtain ⟨a1, a2, a3, a4, a5⟩ := qlogR.1 h.log
  have := h.marks
  have h1 := h.pth
  have h2 : cntE c t.pc.toNat ≤ c.length := by
    unfold cntE
    exact Nat.le_trans (List.length_filter_le _ _) (by simp; omega)
  have := hc.len
  have := (readsR_parts.1 h.rds).2.2
  have := h.pcl
  have := h.pc0
  have := h.regs
  omega
end Go.Proofs.YtjhfpabldidlgaaGreat.AM

/- A heap by other numbers: ahead of a call; calls by reference that leave all as it was. -/
set_option linter.all false
namespace Go.Proofs.YtjhfpabldidlgaaGreat.AM
open Go Go.RowKit

section
variable {P : Program} {E : Env} {n m : Nat} {φ φ' : Nat → Option Loc} {S S' : Nat → Prop} {H H' : Heap} {w : World} {T T' : Tmps} {ρ : Nat → Nat}

/-- A CALL's HEAP BY OTHER NUMBERS. -/
theorem RSpec.pre {f : Nat} {vs vs' : List V} {H1 : Heap} {r : V} (h : RSpec P f vs' H' r H1) (hl : vs'.length = vs.length) (hW : Weak H.length (initV 0 vs) H (initV 0 vs') H') : RSpec P f vs H r H1 := by
  refine ⟨h.1, fun C φ S w cs hH hv => ?_⟩
  have hlen := hv.len
  obtain ⟨φ1, S1, g1, g2, g3⟩ := hW C φ S w { tmps := cs.toArray, defers := [] } hH (fun t => by
    rw [initV_get]
    simp only [Nat.zero_le, if_true, Nat.sub_zero]
    cases hx : vs[t]? with
    | none => exact .d _ _ (.undef _)
    | some v =>
      have ht : t < cs.length := by have := (List.getElem?_eq_some_iff.1 hx).1; omega
      have := hv.at_ t v cs[t] hx (List.getElem?_eq_getElem ht)
      simpa [Array.getD_eq_getD_getElem?, ht] using this)
  have hv1 : RVs φ1 S1 H' w vs' cs := ⟨by omega, fun i v c hi hc => by
    have := g2 i
    rw [initV_get] at this
    simp only [Nat.zero_le, if_true, Nat.sub_zero, hi] at this
    have hlt := (List.getElem?_eq_some_iff.1 hc).1
    have e : cs[i] = c := (List.getElem?_eq_some_iff.1 hc).2
    simpa [Array.getD_eq_getD_getElem?, hlt, e] using this⟩
  refine (h.2 C φ1 S1 w cs g1 hv1).mono ?_
  rintro e w' ⟨c, φ2, S2, rfl, h1, h2, h3, h4⟩
  have ht := g3.trans (h3.toM (m := H.length) h4.size)
  refine ⟨c, φ2, S2, rfl, h1, h2, ⟨ht.keepS, fun id hu => ht.keepH id (Classical.byContradiction fun hn => hu (hget_length H id (by omega))) hu⟩, h4⟩

theorem RSpec.congr {f : Nat} {vs : List V} {r : V} {H1 H2 : Heap} (h : RSpec P f vs H r H1) (hH : ∀ id, hget H2 id = hget H1 id) : RSpec P f vs H r H2 := by
  refine ⟨h.1, fun C φ S w cs hH0 hv => (h.2 C φ S w cs hH0 hv).mono ?_⟩
  rintro e w' ⟨c, φ', S', rfl, h1, h2, h3, h4⟩
  exact ⟨c, φ', S', rfl, h1.congr hH, h2.congr hH, ⟨h3.keepS, fun id hu => by rw [hH]; exact h3.keepH id hu⟩, h4⟩

/-- A call by reference that leaves all as it was, wherever it comes. -/
theorem dcall_ref0 {f : Nat} {vs vs0 : List V} {H0 : Heap} {r r0 : V} {nid : Nat} {K : V → Blk → Prop} (l : List Nat) (h : RSpec P f vs0 H0 r0 H0) (hvs : ∀ k, renL (frρ l k) vs0 = vs) (hr : ∀ k, r0.ren (frρ l k) = r) (hnd : l.Nodup) (hlen : l.length = H0.length)
    (hB : ∀ j, j < H0.length → hget H0 j ≠ .unborn ∧ hget H (frρ l 0 j) ≠ .unborn ∧ ∀ k, hget H (frρ l 0 j) = (hget H0 j).ren (frρ l k))
    (hK : K r .dead) : dcall P f vs H nid K := by
  refine ⟨_, _, fun H' hm hu => ?_, hK⟩
  have hl0 : ∀ j k, j < H0.length → frρ l k j = frρ l 0 j := fun j k hj => by rw [frρ_lt (by omega), frρ_lt (by omega)]
  have hB' : ∀ j, j < H0.length → hget H' (frρ l 0 j) = hget H (frρ l 0 j) := fun j hj => (hm _).resolve_left (hB j hj).2.1
  have hlt : ∀ i ∈ l, i < H'.length := fun i hi => by
    obtain ⟨j, hj, rfl⟩ := List.getElem_of_mem hi
    refine Classical.byContradiction fun hn => ?_
    have h1 := hB' j (by omega)
    rw [frρ_lt hj, hget_length H' _ (by omega)] at h1
    have := (hB j (by omega)).2.1
    rw [frρ_lt hj] at this
    exact this h1.symm
  have hfr := RSpec.frame (H := H') h l hnd hlen (Nat.le_refl _) hlt (fun j hj => ⟨(hB j hj).1, by rw [hl0 j _ hj, hB' j hj]; exact (hB j hj).2.2 _⟩)
  rw [hvs, hr] at hfr
  refine (hfr.congr (H2 := H') (fun id => ?_)).bury hu
  unfold frameH
  have hd : H0.drop l.length = [] := List.drop_eq_nil_of_le (by omega)
  rw [hd, List.map_nil, List.append_nil]
  by_cases hi : id ∈ l
  · obtain ⟨j, hj, rfl⟩ := List.getElem_of_mem hi
    rw [putL_at l _ H' _ j ((H0[j]'(by omega)).ren (frρ l H'.length)) hnd (List.getElem?_eq_getElem hj) (by simp [show j < H0.length by omega])]
    have h1 := (hB j (by omega)).2.2 H'.length
    have h2 := hB' j (by omega)
    rw [frρ_lt hj] at h1 h2
    rw [h2, h1, hget_getElem H0 j, List.getElem?_eq_getElem (show j < H0.length by omega)]; rfl
  · rw [putL_not l _ H' id hi]

end
end Go.Proofs.YtjhfpabldidlgaaGreat.AM

/- What lies in blocks of the call's own, and is written no more, as data. -/
set_option linter.all false
namespace Go.Proofs.YtjhfpabldidlgaaGreat.AM
open Go Go.RowKit

/-- A slice of a block that is written no more, as data. -/
def sealF (H : Heap) (ids : List Nat) : V → V
  | .own id off len => if id ∈ ids then (match hget H id with | .dat _ _ els => .d (.vec ((els.drop off).take len)) | _ => .own id off len) else .own id off len
  | .nils => .d (.vec [])
  | .ptr id i j => if id ∈ ids then (match xport H 40 (.ptr id i j) with | some d => if tids H 40 (.ptr id i j) = [id] then .d d else .ptr id i j | none => .ptr id i j) else .ptr id i j
  | v => v

def sealB (H : Heap) (ids : List Nat) : Blk → Blk
  | .box fz cells => .box fz (cells.map (sealF H ids))
  | b => b

def sealH (H : Heap) (ids : List Nat) : Heap := (freeze H ids).map (sealB H ids)

theorem hget_map (f : Blk → Blk) (hf : f .unborn = .unborn) : ∀ (H : Heap) (i : Nat), hget (H.map f) i = f (hget H i)
  | [], i => by simp [hget, hf]
  | b :: r, 0 => by simp [hget]
  | b :: r, i + 1 => by simpa [hget] using hget_map f hf r i

section
variable {m : Nat} {φ : Nat → Option Loc} {S S1 : Nat → Prop} {H H' : Heap} {C : Ctx} {w : World} {T T' : Tmps}

theorem sealF_rel (ids : List Nat) (hH : HRel C φ S H w) (hS : ∀ B, S B → S1 B) (ht : ∀ id ∈ ids, ∀ L, φ id = some L → S1 L.blk) (hst : Step φ S H w φ S1 H' w) {v : V} {c : Value} (h : RV φ S H w v c) : RV φ S1 H' w (sealF H ids v) c := by
  unfold sealF
  split
  · rename_i id off len
    split
    · rename_i hid
      split
      · rename_i fz sz els hg
        have hx : xport H 40 (.own id off len) = some (.vec ((els.drop off).take len)) := by simp [xport, hg]
        exact .d _ _ (xport_rel hH hS 40 _ c _ (fun i hi L hL => ht i (by simp [tids] at hi; rw [hi]; exact hid) L hL) h hx)
      · exact h.step hst
    · exact h.step hst
  · have hx : xport H 40 (.nils) = some (.vec []) := by simp [xport]
    exact .d _ _ (xport_rel hH hS 40 _ c _ (fun i hi L hL => by simp [tids] at hi) h hx)
  · rename_i id i j
    split
    · rename_i hid
      split
      · rename_i d hx
        split
        · rename_i htid
          exact .d _ _ (xport_rel hH hS 40 _ c _ (fun k hk L hL => ht k (by rw [htid] at hk; simp at hk; rw [hk]; exact hid) L hL) h hx)
        · exact h.step hst
      · exact h.step hst
    · exact h.step hst
  · exact h.step hst

theorem Weak.sealed (ids : List Nat) (hT : ∀ q ∈ T', q.2 = sealF H ids (tget T q.1)) : Weak m T H T' (sealH H ids) := by
  intro C φ S w a hH hT0
  obtain ⟨S1, p1, p2, p3⟩ := HRel.freeze hH ids hH
  have hg : ∀ i, hget (sealH H ids) i = sealB H ids (hget (freeze H ids) i) := fun i => hget_map _ rfl _ i
  have hst2 : Step φ S1 (AM.freeze H ids) w φ S1 (sealH H ids) w := ⟨.refl _ _, fun i hi => by
    rw [hg]
    cases hb : hget (AM.freeze H ids) i with
    | unborn => exact absurd hb hi
    | dead => exact .inl rfl
    | box fz cells => exact .inr ⟨by simp [sealB, SameShape], rfl⟩
    | dat fz sz els => exact .inr ⟨by simp [sealB, SameShape], rfl⟩⟩
  have hst := p2.trans hst2 (Nat.le_refl _) (Nat.le_refl _)
  have hS : ∀ B, S B → S1 B := fun B hB => (p2.keepS B hB (hH.low B hB)).1
  have key : ∀ v c, RV φ S H w v c → RV φ S1 (sealH H ids) w (sealF H ids v) c := fun v c h => sealF_rel ids hH hS p3 hst h
  have hfz : ∀ i fz cells, hget (AM.freeze H ids) i = .box fz cells → ∃ fz0, hget H i = .box fz0 cells := by
    intro i fz cells
    have : ∀ (l : List Nat) (H : Heap), hget (AM.freeze H l) i = .box fz cells → ∃ fz0, hget H i = .box fz0 cells := by
      intro l
      induction l with
      | nil => intro H h; exact ⟨fz, h⟩
      | cons id r ih =>
        intro H h
        obtain ⟨fz0, h0⟩ := ih _ h
        rw [hget_hput] at h0
        split at h0
        · rename_i e
          subst e
          cases hb : hget H i <;> rw [hb] at h0 <;> simp [Blk.ice] at h0
          exact ⟨_, by rw [h0.2]⟩
        · exact ⟨fz0, h0⟩
    exact this ids H
  refine ⟨φ, S1, ⟨p1.n0, p1.own, p1.vis, p1.inj, fun i => ?_, p1.low⟩, fun t => ?_, hst.toM (Nat.le_refl _)⟩
  · rw [hg]
    have hb := p1.blk i
    cases hgi : hget (AM.freeze H ids) i with
    | unborn => rw [hgi] at hb; exact hb
    | dead => rw [hgi] at hb; exact hb
    | box fz cells =>
      rw [hgi] at hb
      obtain ⟨fz0, h0⟩ := hfz i fz cells hgi
      have hb0 := hH.blk i
      rw [h0] at hb0
      obtain ⟨L, cs, t, h1, h2, h3, h4, h5, h6⟩ := hb
      obtain ⟨L', cs', t', k1, k2, k3, k4, k5, k6⟩ := hb0
      rw [h1] at k1
      cases k1
      have hcs : cs = cs' := by
        have := h3.heap.symm.trans k3.heap
        simp at this
        exact this.1
      subst hcs
      refine ⟨L, cs, t, h1, h2, h3, by simpa using h4, fun k v c hk hc => ?_, h6⟩
      simp only [List.getElem?_map, Option.map_eq_some_iff] at hk
      obtain ⟨v0, hv0, rfl⟩ := hk
      exact key v0 c (k5 k v0 c hv0 hc)
    | dat fz sz els =>
      rw [hgi] at hb
      rcases hb with h | ⟨L, cs, t, h1, h2, h3, h4, h5, h6⟩
      · exact .inl h
      · exact .inr ⟨L, cs, t, h1, h2, h3, h4, h5, h6⟩
  · rcases tget_mem (T' := T') (t := t) with h | ⟨q, h1, rfl, h3⟩
    · rw [h]; exact .d _ _ (.undef _)
    · rw [h3, hT q h1]; exact key _ _ (hT0 _)

theorem Weak.trans' {m : Nat} {T1 T2 T3 : Tmps} {H1 H2 H3 : Heap} (h : Weak m T1 H1 T2 H2) (h' : Weak m T2 H2 T3 H3) : Weak m T1 H1 T3 H3 := by
  intro C φ S w a hH hT
  obtain ⟨φ1, S1, a1, a2, a3⟩ := h C φ S w a hH hT
  obtain ⟨φ2, S2, b1, b2, b3⟩ := h' C φ1 S1 w a a1 a2
  exact ⟨φ2, S2, b1, b2, a3.trans b3⟩

/-- CLOSED: what lies in blocks of the call's own is data now, and all but the first n blocks are dropped. -/
theorem Weak.close (ids : List Nat) (n : Nat) (hmn : m ≤ n) (hH : (sealH H ids).take n = H') (hT : ∀ q ∈ T', q.2 = sealF H ids (tget T q.1) ∧ V.lower n q.2 = true) (hB : ∀ b ∈ H', Blk.lower n b = true) : Weak m T H T' H' := by
  refine Weak.trans' (Weak.sealed (T' := T'.map fun q => (q.1, sealF H ids (tget T q.1))) ids (fun q hq => ?_)) (Weak.trimsM n hmn hH (fun q hq => ⟨?_, (hT q hq).2⟩) hB)
  · obtain ⟨q0, _, rfl⟩ := List.mem_map.1 hq
    rfl
  · rw [(hT q hq).1]
    clear hT
    induction T' with
    | nil => simp at hq
    | cons p r ih =>
      simp only [List.map_cons, tget]
      by_cases e : q.1 = p.1
      · rw [if_pos e, e]
      · rw [if_neg e]
        rcases List.mem_cons.1 hq with rfl | hq
        · exact absurd rfl e
        · exact ih hq
end

section
variable {P : Program} {E : Env}
/-- A function's contract, cut in parts. -/
theorem CSpec.of_snd {f : Nat} {fn : Func} {body : Code} {args : List D} {r : D} (hE : EOk P E) (hmix : P.follows .mixedOrders = true) (hf : P.funcs[f]? = some fn) (hb : fn.body = some body) (hcall : Callable P f) (hn : args.length ≤ fn.ntmps)
    (h : Snd P E fn.ntmps 0 body (initT 0 args) [] (Fin E fn.results.toList r)) : CSpec P f args r := by
  refine ⟨hcall, fun S0 w cs hS0 hlen hrel => ?_⟩
  have hsz : (cs.toArray ++ Array.replicate (fn.ntmps - cs.toArray.size) undef).size = fn.ntmps := by simp; omega
  have hst : Stands ⟨w.heap.size, fun _ => False, S0⟩ fn.ntmps (initT 0 args) [] (fun _ => none) S0 { tmps := cs.toArray ++ Array.replicate (fn.ntmps - cs.toArray.size) undef, defers := [] } w := by
    refine ⟨⟨Nat.le_refl _, (fun id L h => by cases h), (fun B hB => .inl hB), (fun i j L L' h => by cases h), (fun id => rfl), hS0⟩, fun t => ?_, hsz, rfl⟩
    rw [initT_get]
    simp only [Nat.zero_le, if_true, Nat.sub_zero]
    by_cases ht : t < args.length
    · have hc : t < cs.length := by omega
      rw [List.getElem?_eq_getElem ht]
      have : (cs.toArray ++ Array.replicate (fn.ntmps - cs.toArray.size) undef).getD t undef = cs[t] := by
        simp [Array.getElem?_append, hc]
      rw [this]
      exact .d _ _ (hrel t _ _ (List.getElem?_eq_getElem ht) (List.getElem?_eq_getElem hc))
    · rw [List.getElem?_eq_none (by omega)]
      exact .d _ _ (.undef _)
  refine calls_of_wp hf hb (wp_mono (h _ _ _ _ _ hst) ?_)
  rintro e a' w' ⟨e', T', H', φ', S', hq, rfl, hst', hs', hk'⟩
  have fin : (∃ v, resOf E T' H' fn.results.toList = some v ∧ xport H' 40 v = some r) → a'.defers = [] ∧ ∃ v, (results fn a'.tmps).run P w' = .ok v w' ∧ ∃ c S', Ending.returned v = .returned c ∧ RD S' w' r c ∧ (∀ B, S' B → (S0 B ∨ w.heap.size ≤ B) ∧ B < w'.heap.size) ∧ Kp ⟨w.heap.size, fun _ => False, S0⟩ w w' := by
    rintro ⟨v, hv, hx⟩
    obtain ⟨c, hrun, hc⟩ := resOf_sound hE hst' hv
    refine ⟨hst'.defers, c, hrun, c, fun B => (S0 B ∨ w.heap.size ≤ B) ∧ B < w'.heap.size, rfl, ?_, fun B hB => hB, hk'⟩
    have hv1 : ∀ B, S' B → S0 B ∨ w.heap.size ≤ B := fun B hB => by
      rcases hst'.heap.vis B hB with h | h | h
      · exact .inl h
      · exact h.elim
      · exact .inr h
    have hv2 : ∀ i L, φ' i = some L → S0 L.blk ∨ w.heap.size ≤ L.blk := fun i L hL => by
      rcases hst'.heap.own i L hL with h | h
      · exact h.elim
      · exact .inr h
    exact xport_rel hst'.heap (fun B hB => ⟨hv1 B hB, hst'.heap.low B hB⟩) 40 v c r (fun i _ L hL => ⟨hv2 i L hL, hst'.heap.lt hL⟩) hc hx
  cases e' with
  | normal => exact fin hq
  | ret => exact fin hq
  | exit id => exact hq.elim

end
end Go.Proofs.YtjhfpabldidlgaaGreat.AM

/- What was read; tables. -/
set_option linter.all false
set_option maxRecDepth 100000
set_option maxHeartbeats 4000000
namespace Go.Proofs.YtjhfpabldidlgaaGreat.AM
open Go Go.RowKit

theorem okEl_Rd (l : List Rd) : ∀ e ∈ l.map dRd, okEl 3 e = true := by
  intro e he
  obtain ⟨w, _, rfl⟩ := List.mem_map.1 he
  rfl
theorem c_IndexFunc_Rd (ns : List Rd) (f : Nat) (cap : List D) (p : Rd → Bool) (hl : ns.length ≤ 1000000) (hcap : cap.length ≤ 8) (hp : ∀ n ∈ ns, CSpec Tryz.prog f (dRd n :: cap) (.bool (p n))) : CSpec Tryz.prog 135 [.vec (ns.map dRd), .func (f, 0) cap] (.int .i64 (idxOf p ns)) := by
  refine CSpec.of_awp envOf_ok hmix Tryz.func135 rfl (fun args w => Tryz.call135 args w) (by simp [Tryz.f135]) ?_
  simp only [Tryz.f135]
  simp (maxSteps := 2000000) -implicitDefEqProofs only [zz, zE, evop, ev, ofVal, tget, tput, ok, V.isUndef, initT, Ch.on, sliceOf, lenOf, ↓reduceIte, reduceCtorEq, Nat.reduceLT, Int.reduceNeg]
  refine wloop_ind (σ := Nat) (fun i => ns.length - i) (fun i => [(8, .d (.int .i64 i)), (7, .d (.int .i64 ns.length)), (4, .d (.int .i64 0)), (0, .d (.vec (ns.map dRd))), (1, .d (.func (f, 0) cap))]) (fun _ => []) (fun i => i ≤ ns.length ∧ ∀ j < i, ∀ x, ns[j]? = some x → p x = false) 0 ⟨Nat.zero_le _, fun j hj => by omega⟩ (Weak.sub (by simp [tget])) ?_
  intro i ⟨hi, hb⟩
  rcases Nat.lt_or_ge i ns.length with h | h
  · have hx : ns[i]? = some ns[i] := List.getElem?_eq_getElem h
    have h' : ((i : Int) < (ns.length : Int)) := by omega
    simp (maxSteps := 2000000) -implicitDefEqProofs only [zz, zE, evop, ev, tget, tput, ok, V.isUndef, intBin, Ch.on, calleeOf, withArgs, told, D.cells, loadD, ↓reduceIte, reduceCtorEq, Nat.reduceLT, Nat.reduceEqDiff, Nat.reduceAdd, Nat.reduceLeDiff, Int.reduceNeg, nilTest, dRd, h', List.getElem?_map, hx, Option.map_some, Int.natCast_nonneg]
    refine acall_flat (ds := dRd ns[i] :: cap) (by simp only [xports, xport, xports_ds cap 39 (by omega), dRd]) (hp _ (List.getElem_mem h)) rfl ?_
    simp (maxSteps := 2000000) -implicitDefEqProofs only [zz, evop, ev, ofVal, tget, tput, ok, V.isUndef, intBin, Ch.on, told, xport, resOf, resV, resVs, ↓reduceIte, Nat.reduceLT, Nat.reduceEqDiff, Int.reduceNeg, nilTest]
    split
    · rename_i hpx
      simp [idxOf, findIdx_at h hb hpx]
    · rename_i hpx
      refine ⟨i + 1, ⟨h, fun j hj x hxj => ?_⟩, by omega, Weak.sub ?_⟩
      · rcases Nat.lt_or_ge j i with hji | hji
        · exact hb j hji x hxj
        · have : j = i := by omega
          subst this
          rw [hx] at hxj; cases hxj
          simpa using hpx
      · have hw : IntKind.i64.wrap ((i : Int) + 1) = (i : Int) + 1 := by rw [IntKind.wrap_i64]; omega
        simp [tget, hw]
  · have h' : ¬ ((i : Int) < (ns.length : Int)) := by omega
    simp (maxSteps := 2000000) -implicitDefEqProofs only [zz, evop, ev, ofVal, tget, tput, ok, V.isUndef, intBin, Ch.on, told, xport, resOf, resV, resVs, ↓reduceIte, Nat.reduceLT, Nat.reduceEqDiff, Int.reduceNeg, nilTest, h']
    have : ns.findIdx? p = none := by
      rw [List.findIdx?_eq_none_iff]
      intro x hx
      obtain ⟨j, hj, rfl⟩ := List.getElem_of_mem hx
      simpa using hb j (by omega) _ (List.getElem?_eq_getElem hj)
    simp [idxOf, this]
theorem c_IndexFunc_R (ns : List (Int × Int)) (f : Nat) (cap : List D) (p : (Int × Int) → Bool) (hl : ns.length ≤ 1000000) (hcap : cap.length ≤ 8) (hp : ∀ n ∈ ns, CSpec Tryz.prog f (dW n :: cap) (.bool (p n))) : CSpec Tryz.prog 137 [.vec (ns.map dW), .func (f, 0) cap] (.int .i64 (idxOf p ns)) := by
  refine CSpec.of_awp envOf_ok hmix Tryz.func137 rfl (fun args w => Tryz.call137 args w) (by simp [Tryz.f137]) ?_
  simp only [Tryz.f137]
  simp (maxSteps := 2000000) -implicitDefEqProofs only [zz, zE, evop, ev, ofVal, tget, tput, ok, V.isUndef, initT, Ch.on, sliceOf, lenOf, ↓reduceIte, reduceCtorEq, Nat.reduceLT, Int.reduceNeg]
  refine wloop_ind (σ := Nat) (fun i => ns.length - i) (fun i => [(8, .d (.int .i64 i)), (7, .d (.int .i64 ns.length)), (4, .d (.int .i64 0)), (0, .d (.vec (ns.map dW))), (1, .d (.func (f, 0) cap))]) (fun _ => []) (fun i => i ≤ ns.length ∧ ∀ j < i, ∀ x, ns[j]? = some x → p x = false) 0 ⟨Nat.zero_le _, fun j hj => by omega⟩ (Weak.sub (by simp [tget])) ?_
  intro i ⟨hi, hb⟩
  rcases Nat.lt_or_ge i ns.length with h | h
  · have hx : ns[i]? = some ns[i] := List.getElem?_eq_getElem h
    have h' : ((i : Int) < (ns.length : Int)) := by omega
    simp (maxSteps := 2000000) -implicitDefEqProofs only [zz, zE, evop, ev, tget, tput, ok, V.isUndef, intBin, Ch.on, calleeOf, withArgs, told, D.cells, loadD, ↓reduceIte, reduceCtorEq, Nat.reduceLT, Nat.reduceEqDiff, Nat.reduceAdd, Nat.reduceLeDiff, Int.reduceNeg, nilTest, dW, h', List.getElem?_map, hx, Option.map_some, Int.natCast_nonneg]
    refine acall_flat (ds := dW ns[i] :: cap) (by simp only [xports, xport, xports_ds cap 39 (by omega), dW]) (hp _ (List.getElem_mem h)) rfl ?_
    simp (maxSteps := 2000000) -implicitDefEqProofs only [zz, evop, ev, ofVal, tget, tput, ok, V.isUndef, intBin, Ch.on, told, xport, resOf, resV, resVs, ↓reduceIte, Nat.reduceLT, Nat.reduceEqDiff, Int.reduceNeg, nilTest]
    split
    · rename_i hpx
      simp [idxOf, findIdx_at h hb hpx]
    · rename_i hpx
      refine ⟨i + 1, ⟨h, fun j hj x hxj => ?_⟩, by omega, Weak.sub ?_⟩
      · rcases Nat.lt_or_ge j i with hji | hji
        · exact hb j hji x hxj
        · have : j = i := by omega
          subst this
          rw [hx] at hxj; cases hxj
          simpa using hpx
      · have hw : IntKind.i64.wrap ((i : Int) + 1) = (i : Int) + 1 := by rw [IntKind.wrap_i64]; omega
        simp [tget, hw]
  · have h' : ¬ ((i : Int) < (ns.length : Int)) := by omega
    simp (maxSteps := 2000000) -implicitDefEqProofs only [zz, evop, ev, ofVal, tget, tput, ok, V.isUndef, intBin, Ch.on, told, xport, resOf, resV, resVs, ↓reduceIte, Nat.reduceLT, Nat.reduceEqDiff, Int.reduceNeg, nilTest, h']
    have : ns.findIdx? p = none := by
      rw [List.findIdx?_eq_none_iff]
      intro x hx
      obtain ⟨j, hj, rfl⟩ := List.getElem_of_mem hx
      simpa using hb j (by omega) _ (List.getElem?_eq_getElem hj)
    simp [idxOf, this]
theorem c_ContainsFunc_R (ns : List (Int × Int)) (f : Nat) (cap : List D) (p : (Int × Int) → Bool) (hl : ns.length ≤ 1000000) (hcap : cap.length ≤ 8) (hp : ∀ n ∈ ns, CSpec Tryz.prog f (dW n :: cap) (.bool (p n))) : CSpec Tryz.prog 83 [.vec (ns.map dW), .func (f, 0) cap] (.bool (ns.any p)) := by
  refine CSpec.of_awp envOf_ok hmix Tryz.func83 rfl (fun args w => Tryz.call83 args w) (by simp [Tryz.f83]) ?_
  simp only [Tryz.f83]
  simp (maxSteps := 2000000) -implicitDefEqProofs only [zz, evop, ev, ofVal, tget, tput, ok, V.isUndef, initT, Ch.on, calleeOf, withArgs, ↓reduceIte, reduceCtorEq, Nat.reduceLT, Nat.reduceEqDiff]
  refine acall_flat (by first | rfl | (simp only [xports, xport, hget]; rfl)) (c_IndexFunc_R ns f cap p hl hcap hp) rfl ?_
  try simp (maxSteps := 2000000) -implicitDefEqProofs only [zz, evop, ev, ofVal, tget, tput, ok, V.isUndef, intBin, Ch.on, xport, resOf, resV, resVs, ↓reduceIte, Nat.reduceLT, nilTest]
  rw [idxOf_nonneg]
theorem o_Clone_Rd (els : List D) (h1 : els.length * 24 ≤ 140737488355328) (h2 : ∀ e ∈ els, okEl 3 e = true) : FSpec Tryz.prog 213 [.vec els] (.own 0 0 els.length) [.dat false 3 els] := by
  refine FSpec.of_awp envOf_ok hmix Tryz.func213 rfl (fun args w => Tryz.call213 args w) (by simp [Tryz.f213]) ?_
  simp only [Tryz.f213]
  simp (maxSteps := 2000000) -implicitDefEqProofs only [zz, zE, evop, ev, ofVal, tget, tput, ok, V.isUndef, initT, Ch.on, told, hget, hput, V.cells, V.isAgg, V.clo, clos, sliceOf, partsD, elems, resOf, resV, resVs, ↓reduceIte, reduceCtorEq, Nat.reduceLT, Nat.reduceEqDiff, Nat.reduceMul, Nat.reduceLeDiff, nilTest]
  refine ⟨fun h => ?_, ⟨h1, h2⟩, ?_⟩
  · subst h
    refine Weak.pick [7] (by simp) (by simp) rfl (fun q hq => ?_) (fun i hi => ?_)
    · obtain rfl : q = _ := by simpa using hq
      exact .nils 0 3 rfl
    · obtain rfl : i = 0 := by simpa using hi
      exact .virt 3 rfl rfl
  · refine Weak.pick [1] (by simp) (by simp) rfl (fun q hq => ?_) (fun i hi => ?_)
    · obtain rfl : q = _ := by simpa using hq
      exact .same _
    · obtain rfl : i = 0 := by simpa using hi
      exact .dat false 3 els rfl rfl

/-! ### tables -/
theorem c_somebody (w : Int) : CSpec Tryz.prog 92 [.int .i64 w] (.bool (decide (1 ≤ w) && decide (w ≤ 8))) := by
  refine CSpec.of_awp envOf_ok hmix Tryz.func92 rfl (fun args w => Tryz.call92 args w) (by simp [Tryz.f92]) ?_
  simp only [Tryz.f92]
  simp (maxSteps := 2000000) -implicitDefEqProofs only [zz, evop, ev, ofVal, tget, tput, ok, V.isUndef, intBin, guardOf, initT, Ch.on, xport, resOf, resV, resVs, ↓reduceIte, reduceCtorEq, Nat.reduceLT, Nat.reduceEqDiff, nilTest]
  split
  · rename_i h
    simp [h]
  · rename_i h
    simp [h]
theorem c_stripe_wrong (r : Int × Int) : CSpec Tryz.prog 112 [dW r] (.bool (wrongR r)) := by
  have e1 : wrongR r = (decide (r.1 < 0) || (decide (2147483647 < r.1) || (decide (r.2 ≠ 0) && !(decide (1 ≤ r.2) && decide (r.2 ≤ 8))))) := by
    unfold wrongR
    rw [Bool.eq_iff_iff]
    simp
    omega
  rw [e1]
  refine CSpec.of_awp envOf_ok hmix Tryz.func112 rfl (fun args w => Tryz.call112 args w) (by simp [Tryz.f112]) ?_
  simp only [Tryz.f112]
  simp (maxSteps := 2000000) -implicitDefEqProofs only [zz, zE, evop, ev, ofVal, tget, tput, ok, V.isUndef, intBin, guardOf, initT, Ch.on, calleeOf, withArgs, xport, hget, hput, V.cells, structAt, Blk.width, resOf, resV, resVs, ↓reduceIte, reduceCtorEq, Nat.reduceLT, Nat.reduceEqDiff, Nat.reduceAdd, nilTest, dW]
  by_cases h1 : r.1 < 0
  · have d1 := decide_eq_true h1
    simp (maxSteps := 2000000) -implicitDefEqProofs only [zz, ↓reduceIte, h1, Bool.true_or]
  have d1 := decide_eq_false h1
  simp (maxSteps := 2000000) -implicitDefEqProofs only [zz, ↓reduceIte, h1, Bool.false_or]
  by_cases h2 : r.1 > 2147483647
  · have d2 : decide (2147483647 < r.1) = true := decide_eq_true h2
    simp (maxSteps := 2000000) -implicitDefEqProofs only [zz, ↓reduceIte, h2, Bool.true_or]
  have d2 : decide (2147483647 < r.1) = false := decide_eq_false h2
  simp (maxSteps := 2000000) -implicitDefEqProofs only [zz, ↓reduceIte, h2, Bool.false_or]
  by_cases h3 : r.2 = 0
  · have d3 : (r.2 != 0) = false := by simpa using h3
    have d4 : decide (r.2 ≠ 0) = false := by simpa using h3
    simp (maxSteps := 2000000) -implicitDefEqProofs only [zz, ↓reduceIte, d3, d4]
  have d3 : (r.2 != 0) = true := by simpa using h3
  have d4 : decide (r.2 ≠ 0) = true := by simpa using h3
  simp (maxSteps := 2000000) -implicitDefEqProofs only [zz, ↓reduceIte, d3, d4]
  refine acall_flat (by first | rfl | (simp only [xports, xport, hget]; rfl)) (c_somebody r.2) rfl ?_
  try simp (maxSteps := 2000000) -implicitDefEqProofs only [zz, evop, ev, tget, tput, ok, V.isUndef, guardOf, Ch.on, xport, resOf, resV, resVs, ↓reduceIte, Nat.reduceLT, Nat.reduceEqDiff]
theorem c_stripe_Right (r : List (Int × Int)) : CSpec Tryz.prog 63 [.vec (r.map dW)] (.bool (tableR r)) := by
  refine CSpec.of_awp envOf_ok hmix Tryz.func63 rfl (fun args w => Tryz.call63 args w) (by simp [Tryz.f63]) ?_
  simp only [Tryz.f63]
  simp (maxSteps := 2000000) -implicitDefEqProofs only [zz, zE, evop, ev, ofVal, tget, tput, ok, V.isUndef, intBin, guardOf, initT, Ch.on, calleeOf, withArgs, xport, sliceOf, lenOf, resOf, resV, resVs, ↓reduceIte, reduceCtorEq, Nat.reduceLT, Nat.reduceEqDiff, nilTest]
  unfold tableR
  split
  · rename_i h1
    split
    · rename_i h2
      refine acall_flat (by first | rfl | (simp only [xports, xport, hget]; rfl)) (c_ContainsFunc_R r _ [] wrongR (by omega) (by decide) (fun w _ => c_stripe_wrong w)) rfl ?_
      try simp (maxSteps := 2000000) -implicitDefEqProofs only [zz, evop, ev, tget, tput, ok, V.isUndef, guardOf, Ch.on, xport, resOf, resV, resVs, ↓reduceIte, Nat.reduceLT, Nat.reduceEqDiff]
      rw [decide_eq_true (by omega : 1 ≤ r.length), decide_eq_true (by omega : r.length ≤ 16)]; simp
    · rename_i h2
      rw [decide_eq_false (by omega : ¬ r.length ≤ 16)]; simp
  · rename_i h1
    rw [decide_eq_false (by omega : ¬ 1 ≤ r.length)]; simp
end Go.Proofs.YtjhfpabldidlgaaGreat.AM

/- What was read: plain laws. -/
set_option linter.all false
set_option maxRecDepth 100000
set_option maxHeartbeats 4000000
namespace Go.Proofs.YtjhfpabldidlgaaGreat.AM
open Go Go.RowKit

def placeR (l : List Rd) (c : Int) : Int := idxOf (fun r => r.1 == c) l

theorem placeR_cases (l : List Rd) (c : Int) : (placeR l c = -1 ∧ l.find? (fun x => x.1 == c) = none) ∨ ∃ (j : Nat) (x : Rd), placeR l c = j ∧ l[j]? = some x ∧ x.1 = c ∧ l.find? (fun x => x.1 == c) = some x ∧ ∀ k < j, ∀ y, l[k]? = some y → y.1 ≠ c := by
  unfold placeR idxOf
  cases h : l.findIdx? (fun r => r.1 == c) with
  | none =>
    left
    refine ⟨rfl, ?_⟩
    rw [List.findIdx?_eq_none_iff] at h
    rw [List.find?_eq_none]
    intro x hx
    have := h x hx
    simpa using this
  | some j =>
    right
    rw [List.findIdx?_eq_some_iff_getElem] at h
    obtain ⟨h1, h2, h3⟩ := h
    refine ⟨j, l[j], rfl, List.getElem?_eq_getElem h1, by simpa using h2, ?_, fun k hk y hy => ?_⟩
    · rw [List.find?_eq_some_iff_append]
      refine ⟨h2, l.take j, l.drop (j + 1), ?_, fun a ha => ?_⟩
      · rw [← List.drop_eq_getElem_cons h1, List.take_append_drop]
      · obtain ⟨k, hk, rfl⟩ := List.getElem_of_mem ha
        simp only [List.length_take] at hk
        rw [List.getElem_take]
        have := h3 k (by omega)
        simpa using this
    · have := h3 k hk
      have e := (List.getElem?_eq_some_iff.1 hy).2
      rw [e] at this
      simpa using this

theorem placeR_self {l : List Rd} {i : Nat} {x : Rd} (hn : (l.map fun r => r.1).Nodup) (hx : l[i]? = some x) : placeR l x.1 = i := by
  rcases placeR_cases l x.1 with ⟨h1, h2⟩ | ⟨j, y, h1, h2, h3, _, _⟩
  · rw [List.find?_eq_none] at h2
    have := h2 x (List.mem_of_getElem? hx)
    simp at this
  · rw [h1]
    have e1 : (l.map fun r => r.1)[i]? = some x.1 := by rw [List.getElem?_map, hx]; rfl
    have e2 : (l.map fun r => r.1)[j]? = some x.1 := by rw [List.getElem?_map, h2]; simp [h3]
    obtain ⟨q1, q2⟩ := List.getElem?_eq_some_iff.1 e1
    obtain ⟨q3, q4⟩ := List.getElem?_eq_some_iff.1 e2
    have := (List.getElem_inj hn).1 (q4.trans q2.symm)
    omega

theorem readsR_of {l : List Rd} (h : ∀ (j : Nat) (x : Rd), l[j]? = some x → rightRd x = true ∧ placeR l x.1 = j) (hl : l.length ≤ 24) : readsR l = true := by
  refine readsR_parts.2 ⟨fun x hx => ?_, ?_, hl⟩
  · obtain ⟨j, hj, rfl⟩ := List.getElem_of_mem hx
    exact (h j _ (List.getElem?_eq_getElem hj)).1
  · rw [List.Nodup, List.pairwise_iff_getElem]
    intro i j hi hj hij e
    have hi' : i < l.length := by simpa using hi
    have hj' : j < l.length := by simpa using hj
    simp only [List.getElem_map] at e
    have h1 := (h i _ (List.getElem?_eq_getElem hi')).2
    have h2 := (h j _ (List.getElem?_eq_getElem hj')).2
    rw [e, h2] at h1
    omega

theorem readsR_not {l : List Rd} {i : Nat} {x : Rd} (hx : l[i]? = some x) (h : rightRd x = false ∨ placeR l x.1 ≠ i) : readsR l = false := by
  cases hr : readsR l with
  | false => rfl
  | true =>
    obtain ⟨h1, h2, _⟩ := readsR_parts.1 hr
    rcases h with h | h
    · rw [h1 x (List.mem_of_getElem? hx)] at h; cases h
    · exact absurd (placeR_self h2 hx) h

/-- What is found. -/
def findR (l : List Rd) (c : Int) : Rd × Bool := if readsR l = true then (match l.find? (fun x => x.1 == c) with | some x => (x, true) | none => ((0, 0, 0), false)) else ((0, 0, 0), false)

theorem readsR_one {r : Rd} (h : rightRd r = true) : readsR [r] = true := readsR_parts.2 ⟨by simpa using h, by simp, by simp⟩
end Go.Proofs.YtjhfpabldidlgaaGreat.AM

/- What was read: the code's own. -/
set_option linter.all false
set_option maxRecDepth 100000
set_option maxHeartbeats 4000000
namespace Go.Proofs.YtjhfpabldidlgaaGreat.AM
open Go Go.RowKit

theorem c_place1 (r : Rd) (c : Int) : CSpec Tryz.prog 136 [dRd r, .imm (.agg [.int .i64 c]) 0] (.bool (r.1 == c)) := by
  refine CSpec.of_awp envOf_ok hmix Tryz.func136 rfl (fun args w => Tryz.call136 args w) (by simp [Tryz.f136]) ?_
  simp only [Tryz.f136]
  simp (maxSteps := 2000000) -implicitDefEqProofs only [zz, zE, evop, ev, ofVal, tget, tput, ok, V.isUndef, intBin, initT, Ch.on, xport, hget, hput, V.cells, D.cells, loadD, structAt, Blk.width, resOf, resV, resVs, ↓reduceIte, reduceCtorEq, Nat.reduceLT, Nat.reduceEqDiff, Nat.reduceAdd, nilTest, dRd]

theorem c_place (l : List Rd) (c : Int) (hl : l.length ≤ 1000000) : CSpec Tryz.prog 81 [.vec (l.map dRd), .int .i64 c] (.int .i64 (placeR l c)) := by
  refine CSpec.of_awp envOf_ok hmix Tryz.func81 rfl (fun args w => Tryz.call81 args w) (by simp [Tryz.f81]) ?_
  simp only [Tryz.f81]
  simp (maxSteps := 2000000) -implicitDefEqProofs only [zz, zE, evop, ev, ofVal, tget, tput, ok, V.isUndef, initT, Ch.on, calleeOf, withArgs, hput, V.cells, ↓reduceIte, reduceCtorEq, Nat.reduceLT, Nat.reduceEqDiff]
  refine acall_flat (by first | rfl | (simp only [xports, xport, hget]; rfl)) (c_IndexFunc_Rd l _ [.imm (.agg [.int .i64 c]) 0] (fun r => r.1 == c) hl (by simp) (fun n _ => c_place1 n c)) rfl ?_
  try simp (maxSteps := 2000000) -implicitDefEqProofs only [zz, evop, ev, tget, tput, ok, V.isUndef, Ch.on, xport, resOf, resV, resVs, ↓reduceIte, Nat.reduceLT]
  rfl

theorem c_reads_Right (l : List Rd) (hl : l.length ≤ 1000000) : CSpec Tryz.prog 26 [.vec (l.map dRd)] (.bool (readsR l)) := by
  refine CSpec.of_awp envOf_ok hmix Tryz.func26 rfl (fun args w => Tryz.call26 args w) (by simp [Tryz.f26]) ?_
  simp only [Tryz.f26]
  simp (maxSteps := 2000000) -implicitDefEqProofs only [zz, zE, evop, ev, ofVal, tget, tput, ok, V.isUndef, initT, Ch.on, sliceOf, lenOf, ↓reduceIte, reduceCtorEq, Nat.reduceLT]
  refine wloop_count l.length (fun i => [(7, .d (.int .i64 i)), (6, .d (.int .i64 l.length)), (5, .d (.vec (l.map dRd))), (0, .d (.vec (l.map dRd)))]) (fun _ => []) (fun i => ∀ (j : Nat) (x : Rd), j < i → l[j]? = some x → rightRd x = true ∧ placeR l x.1 = j) (fun j x hj => by omega) (Weak.sub (by simp [tget])) (fun i hi hI => ?_) (fun hI => ?_)
  · have hx : l[i]? = some l[i] := List.getElem?_eq_getElem hi
    have h' : ((i : Int) < (l.length : Int)) := by omega
    have hw : IntKind.i64.wrap ((i : Int) + 1) = ((i + 1 : Nat) : Int) := by rw [wrap_in (by omega)]; omega
    have hnot := fun h => readsR_not hx h
    simp (maxSteps := 2000000) -implicitDefEqProofs only [zz, zE, evop, ev, ofVal, tget, tput, ok, V.isUndef, intBin, guardOf, Ch.on, calleeOf, withArgs, told, xport, hget, hput, V.cells, D.cells, V.one, loadD, structAt, Blk.width, splice, resOf, resV, resVs, ↓reduceIte, reduceCtorEq, Nat.reduceLT, Nat.reduceEqDiff, Nat.reduceAdd, Nat.reduceLeDiff, nilTest, dRd, h', List.getElem?_map, hx, Option.map_some, Int.natCast_nonneg]
    by_cases h1 : l[i].1 < 0
    · simp (maxSteps := 2000000) -implicitDefEqProofs only [zz, ↓reduceIte, h1]
      rw [hnot (.inl (by have : ¬ 0 ≤ l[i].1 := by omega
                         simp [rightRd, this]))]
    simp (maxSteps := 2000000) -implicitDefEqProofs only [zz, ↓reduceIte, h1]
    refine acall_flat (by first | rfl | (simp only [xports, xport, hget]; rfl)) (c_tick_Right l[i].2.1) rfl ?_
    try simp (maxSteps := 2000000) -implicitDefEqProofs only [zz, zE, evop, ev, ofVal, tget, tput, ok, V.isUndef, guardOf, Ch.on, calleeOf, withArgs, told, xport, hget, structAt, Blk.width, resOf, resV, resVs, ↓reduceIte, reduceCtorEq, Nat.reduceLT, Nat.reduceEqDiff, Nat.reduceAdd]
    cases h2 : tickR l[i].2.1 with
    | false =>
      simp (maxSteps := 2000000) -implicitDefEqProofs only [zz, ↓reduceIte]
      rw [hnot (.inl (by simp [rightRd, h2]))]
    | true =>
      simp (maxSteps := 2000000) -implicitDefEqProofs only [zz, ↓reduceIte]
      refine acall_flat (by first | rfl | (simp only [xports, xport, hget]; rfl)) (c_span_Right l[i].2.2) rfl ?_
      try simp (maxSteps := 2000000) -implicitDefEqProofs only [zz, zE, evop, ev, ofVal, tget, tput, ok, V.isUndef, guardOf, Ch.on, calleeOf, withArgs, told, xport, hget, structAt, Blk.width, resOf, resV, resVs, ↓reduceIte, reduceCtorEq, Nat.reduceLT, Nat.reduceEqDiff, Nat.reduceAdd]
      cases h3 : spanR l[i].2.2 with
      | false =>
        simp (maxSteps := 2000000) -implicitDefEqProofs only [zz, ↓reduceIte]
        rw [hnot (.inl (by simp [rightRd, h3]))]
      | true =>
        simp (maxSteps := 2000000) -implicitDefEqProofs only [zz, ↓reduceIte]
        refine acall_flat (by first | rfl | (simp only [xports, xport, hget]; rfl)) (c_place l l[i].1 hl) rfl ?_
        try simp (maxSteps := 2000000) -implicitDefEqProofs only [zz, evop, ev, ofVal, tget, tput, ok, V.isUndef, intBin, guardOf, Ch.on, told, xport, resOf, resV, resVs, ↓reduceIte, Nat.reduceLT, Nat.reduceEqDiff, nilTest]
        have hr : rightRd l[i] = true := by have : 0 ≤ l[i].1 := by omega
                                            simp [rightRd, h2, h3, this]
        by_cases h4 : placeR l l[i].1 = i
        · have e4 : (placeR l l[i].1 != (i : Int)) = false := by simpa using h4
          simp (maxSteps := 2000000) -implicitDefEqProofs only [zz, ↓reduceIte, e4, hw]
          refine ⟨fun j x hj hxj => ?_, Weak.trims 0 rfl (by simp [tget, V.lower]) (by simp)⟩
          by_cases e : j = i
          · subst e; rw [hx] at hxj; cases hxj; exact ⟨hr, h4⟩
          · exact hI j x (by omega) hxj
        · have e4 : (placeR l l[i].1 != (i : Int)) = true := by simpa using h4
          simp (maxSteps := 2000000) -implicitDefEqProofs only [↓reduceIte, e4]
          rw [hnot (.inr h4)]
  · have h' : ¬ ((l.length : Int) < (l.length : Int)) := by omega
    simp (maxSteps := 2000000) -implicitDefEqProofs only [zz, zE, evop, ev, ofVal, tget, tput, ok, V.isUndef, intBin, Ch.on, told, xport, sliceOf, lenOf, resOf, resV, resVs, ↓reduceIte, reduceCtorEq, Nat.reduceLT, Nat.reduceEqDiff, nilTest, h']
    by_cases h24 : l.length ≤ 24
    · rw [readsR_of (fun j x hx => hI j x (List.getElem?_eq_some_iff.1 hx).1 hx) h24]
      have : ((l.length : Int) ≤ 24) := by omega
      simp [this]
    · have : readsR l = false := by simp [readsR, h24]
      rw [this]
      have : ¬ ((l.length : Int) ≤ 24) := by omega
      simp [this]

theorem c_reads_Find (l : List Rd) (c : Int) (hl : l.length ≤ 1000000) : CSpec Tryz.prog 169 [.vec (l.map dRd), .int .i64 c] (.tuple [dRd (findR l c).1, .bool (findR l c).2]) := by
  refine CSpec.of_awp envOf_ok hmix Tryz.func169 rfl (fun args w => Tryz.call169 args w) (by simp [Tryz.f169]) ?_
  simp only [Tryz.f169]
  simp (maxSteps := 2000000) -implicitDefEqProofs only [zz, zE, evop, ev, ofVal, tget, tput, ok, V.isUndef, initT, Ch.on, calleeOf, withArgs, hput, ↓reduceIte, reduceCtorEq, Nat.reduceLT, Nat.reduceEqDiff, dRd]
  refine acall_flat (by first | rfl | (simp only [xports, xport, hget]; rfl)) (c_place l c hl) rfl ?_
  try simp (maxSteps := 2000000) -implicitDefEqProofs only [zz, zE, evop, ev, ofVal, tget, tput, ok, V.isUndef, intBin, guardOf, Ch.on, calleeOf, withArgs, told, xport, xports, hget, hput, V.cells, V.one, partsV, splice, resOf, resV, resVs, ↓reduceIte, reduceCtorEq, Nat.reduceLT, Nat.reduceEqDiff, Nat.reduceAdd, Nat.reduceLeDiff, nilTest]
  unfold findR
  rcases placeR_cases l c with ⟨h1, h2⟩ | ⟨j, x, h1, h2, h3, h4, _⟩
  · rw [h1, h2]
    have hneg : ((-1 : Int) < 0) := by decide
    simp (maxSteps := 2000000) -implicitDefEqProofs only [zz, ↓reduceIte, Int.reduceNeg, hneg]
    simp
  · have hj : ¬ ((j : Int) < 0) := by omega
    rw [h1, h4]
    simp (maxSteps := 2000000) -implicitDefEqProofs only [zz, ↓reduceIte, hj]
    refine acall_flat (by first | rfl | (simp only [xports, xport, hget]; rfl)) (c_reads_Right l hl) rfl ?_
    try simp (maxSteps := 2000000) -implicitDefEqProofs only [zz, zE, evop, ev, ofVal, tget, tput, ok, V.isUndef, guardOf, Ch.on, told, xport, xports, hget, hput, V.cells, D.cells, V.one, partsV, splice, resOf, resV, resVs, ↓reduceIte, reduceCtorEq, Nat.reduceLT, Nat.reduceEqDiff, Nat.reduceAdd, Nat.reduceLeDiff]
    cases hr : readsR l with
    | false =>
      simp (maxSteps := 2000000) -implicitDefEqProofs only [zz, ↓reduceIte]
      try simp
    | true =>
      simp (maxSteps := 2000000) -implicitDefEqProofs only [zz, zE, evop, ev, ofVal, tget, tput, ok, V.isUndef, Ch.on, xport, xports, hget, hput, V.cells, D.cells, V.one, loadD, splice, resOf, resV, resVs, ↓reduceIte, Nat.reduceLT, Nat.reduceEqDiff, Nat.reduceAdd, Nat.reduceLeDiff, dRd, List.getElem?_map, h2, Option.map_some, Int.natCast_nonneg]
      try simp

theorem c_reads_Add (l : List Rd) (r : Rd) (hl : l.length < 24) (hr : readsR l = true) (hx : rightRd r = true) (hf : l.find? (fun x => x.1 == r.1) = none) : CSpec Tryz.prog 170 [.vec (l.map dRd), dRd r] (.tuple [.vec ((l ++ [r]).map dRd), .int .i64 0]) := by
  refine CSpec.of_awp envOf_ok hmix Tryz.func170 rfl (fun args w => Tryz.call170 args w) (by simp [Tryz.f170]) ?_
  simp only [Tryz.f170]
  simp (maxSteps := 2000000) -implicitDefEqProofs only [zz, zE, evop, ev, ofVal, tget, tput, ok, V.isUndef, initT, Ch.on, calleeOf, withArgs, hput, V.cells, ↓reduceIte, reduceCtorEq, Nat.reduceLT, dRd]
  refine acall_flat (by first | rfl | (simp only [xports, xport, hget]; rfl)) (c_reads_Right l (by omega)) rfl ?_
  try simp (maxSteps := 2000000) -implicitDefEqProofs only [zz, zE, evop, ev, ofVal, tget, tput, ok, V.isUndef, guardOf, Ch.on, calleeOf, withArgs, told, xport, xports, hget, hput, V.cells, D.cells, V.one, V.clo, clos, V.toD, sliceOf, partsD, resOf, resV, resVs, ↓reduceIte, reduceCtorEq, Nat.reduceLT, Nat.reduceEqDiff, Nat.reduceAdd, Nat.reduceMul, Nat.reduceLeDiff]
  simp (maxSteps := 2000000) -implicitDefEqProofs only [zz, ↓reduceIte, hr]
  have h1 := c_reads_Right [r] (by simp)
  rw [readsR_one hx] at h1
  refine acall_flat (by first | rfl | (simp only [xports, xport, hget]; rfl)) (h1) rfl ?_
  try simp (maxSteps := 2000000) -implicitDefEqProofs only [zz, zE, evop, ev, tget, tput, ok, V.isUndef, guardOf, Ch.on, calleeOf, withArgs, told, hget, structAt, Blk.width, ↓reduceIte, reduceCtorEq, Nat.reduceLT, Nat.reduceEqDiff, Nat.reduceAdd]
  refine acall_flat (by first | rfl | (simp only [xports, xport, hget]; rfl)) (c_place l r.1 (by omega)) rfl ?_
  try simp (maxSteps := 2000000) -implicitDefEqProofs only [zz, evop, ev, tget, tput, ok, V.isUndef, Ch.on, ↓reduceIte, Nat.reduceLT]
  have hp : placeR l r.1 = -1 := by
    rcases placeR_cases l r.1 with ⟨h1, _⟩ | ⟨j, x, _, _, _, h4, _⟩
    · exact h1
    · rw [hf] at h4; cases h4
  rw [hp]
  have hneg : ((-1 : Int) ≥ 0) = False := by simp
  refine wdraw_plan [⟨[], true, [], [], false⟩, ⟨[0], true, [], [], false⟩, ⟨[0, 1], true, [], [], false⟩, ⟨[0, 1, 2], false, [26, 29], [], false⟩, ⟨[0, 1, 2], false, [25, 29], [3], false⟩, ⟨[0, 1, 2, 3, 4], false, [29], [], false⟩, ⟨[0, 1, 2, 3, 4, 5], false, [29], [], false⟩, ⟨[0, 1, 2], false, [25, 26, 27, 28], [3, 4, 5, 6], false⟩, ⟨[0, 1, 2, 3, 4, 5, 6, 7], false, [], [], false⟩, ⟨[0, 1, 2, 3, 4, 5, 6, 7, 8], true, [], [], false⟩, ⟨[0, 1, 2, 3, 4, 5, 6, 7, 8, 9], true, [], [], false⟩] (by decide) ?_
  simp (maxSteps := 2000000) -implicitDefEqProofs only [zz, zE, evop, ev, ofVal, tget, tput, ok, V.isUndef, intBin, guardOf, Ch.on, told, xport, xports, hput, sliceOf, lenOf, resOf, resV, resVs, ↓reduceIte, reduceCtorEq, Nat.reduceLT, Nat.reduceEqDiff, Nat.reduceAdd, Nat.reduceSub, Int.reduceNeg, nilTest, hneg]
  have h24 : ((l.length : Int) == 24) = false := by simp; omega
  simp (maxSteps := 2000000) -implicitDefEqProofs only [zz, ↓reduceIte, Int.reduceNeg, h24]
  refine wdraw_plan [⟨[], false, [44, 45], [], false⟩, ⟨[0], false, [44, 45], [], false⟩, ⟨[], false, [42, 43], [0, 1], false⟩, ⟨[2], false, [42, 43], [0, 1], false⟩, ⟨[0, 1, 2, 3], true, [], [], false⟩, ⟨[0, 1, 2, 3, 4], true, [], [], false⟩, ⟨[0, 1, 2, 3, 4, 5], true, [], [], false⟩] (by decide) ?_
  simp (maxSteps := 2000000) -implicitDefEqProofs only [zz, zE, evop, ev, ofVal, tget, tput, ok, V.isUndef, calleeOf, withArgs, hget, hput, V.cells, D.cells, V.one, V.clo, clos, V.toD, sliceOf, partsD, elems, ↓reduceIte, reduceCtorEq, Nat.reduceLT, Nat.reduceEqDiff, Nat.reduceAdd, Nat.reduceMul, Nat.reduceLeDiff, Int.reduceNeg]
  have hc := o_Clone_Rd (l.map dRd) (by simp; omega) (okEl_Rd _)
  rw [List.length_map] at hc
  refine dcall_own (by first | rfl | (simp only [xports, xport, hget]; rfl)) (hc) rfl ?_
  try simp (maxSteps := 2000000) -implicitDefEqProofs only [zz, evop, ev, ofVal, tget, tput, ok, V.isUndef, Ch.on, xport, xports, hget, hput, resOf, resV, resVs, ↓reduceIte, Nat.reduceLT, Nat.reduceEqDiff, Nat.reduceAdd, Int.reduceNeg, V.ren]
  refine ⟨⟨by omega, okEl_Rd [r]⟩, ?_⟩
  have ht : List.take l.length (List.map dRd l) = l.map dRd := by rw [List.take_of_length_le]; simp
  simp [ht]
  rw [List.take_of_length_le (by simp)]
  rfl
end Go.Proofs.YtjhfpabldidlgaaGreat.AM

/- A try is settled; begins. -/
set_option linter.all false
set_option maxRecDepth 100000
set_option maxHeartbeats 4000000
namespace Go.Proofs.YtjhfpabldidlgaaGreat.AM
open Go Go.RowKit

/-- A try's variable. -/
def bT (t : Ty) : Blk := .box false [.d (.int .i64 t.who), .d (.int .i64 t.snap), .d (.int .i64 t.pc), .d (.vec (t.regs.map dI)), .d (.vec (t.path.map dI)), .d (.vec (t.reads.map dRd)), .d (.vec (t.log.1.map dW)), .d (.vec (t.log.2.map dI)), .d (.vec (t.frames.map dFr)), .d (.int .i64 t.kind), .d (.int .i64 t.why)]

/-- The variable of a result. -/
def bZ : Blk := .box false [.d (.int .i64 0), .d (.int .i64 0), .d (.int .i64 0), .nils, .nils, .nils, .nils, .nils, .nils, .d (.int .i64 0), .d (.int .i64 0)]

theorem okCells_Fr (l : List Fr) : ∀ e ∈ l.map dFr, (match e with
    | D.agg cs => cs
    | x => [x]).length = 4 := by
  intro e he
  obtain ⟨w, _, rfl⟩ := List.mem_map.1 he
  rfl

theorem logKeep_lens (l : Lg) : (logKeep l).1.1.length = l.1.length ∧ (logKeep l).1.2.length ≤ l.2.length := by
  unfold logKeep; split <;> simp

theorem c_settled (t : Ty) (c : List St) (h1 : t.log.1.length ≤ 1000000) (h2 : t.log.2.length ≤ 1000000) (h3 : t.frames.length ≤ 1000000) : CSpec Tryz.prog 54 [dT t, .vec (c.map dS)] (dT (setT c.length t)) := by
  refine CSpec.of_awp envOf_ok hmix Tryz.func54 rfl (fun args w => Tryz.call54 args w) (by simp [Tryz.f54]) ?_
  simp only [Tryz.f54]
  simp (maxSteps := 2000000) -implicitDefEqProofs only [zz, zE, evop, ev, tget, V.isUndef, initT, V.cells, ↓reduceIte]
  unfold dT tyC
  simp (maxSteps := 2000000) -implicitDefEqProofs only [zz, zE, evop, ev, tget, tput, ok, V.isUndef, Ch.on, hget, hput, structAt, sliceOf, Blk.width, lenOf, ↓reduceIte, reduceCtorEq, Nat.reduceLT, Nat.reduceEqDiff, Nat.reduceAdd]
  refine wloop_ind (σ := Ty × Nat) (fun z => z.2) (fun z => [(5, .d (.int .i64 z.2)), (2, .ptr 0 0 0), (4, .ptr 1 0 0), (1, .d (.vec (c.map dS)))]) (fun z => [bT z.1, bZ]) (fun z => setF z.2 z.1 = setF t.frames.length t ∧ z.1.frames.length = z.2 ∧ z.1.log.1.length ≤ 1000000 ∧ z.1.log.2.length ≤ 1000000 ∧ z.2 ≤ 1000000) (t, t.frames.length) ⟨rfl, rfl, h1, h2, h3⟩ ?_ ?_
  · exact Weak.trims 2 rfl (by simp [tget, V.lower]) (by simp [bT, bZ, Blk.lower, lowerL, V.lower])
  rintro ⟨u, n⟩ ⟨hs, hn, hl1, hl2, hl3⟩
  simp only at hs hn hl1 hl2 hl3
  have fin : setF n u = u → setT c.length t = doneT c.length u := fun e => by unfold setT; rw [← hs, e]
  rcases n with _ | k
  · have hfin := fin rfl
    refine wdraw_plan [⟨[], true, [], [], false⟩, ⟨[0], true, [], [], false⟩, ⟨[0, 1], true, [], [], false⟩, ⟨[0, 1, 2], false, [14, 15, 19, 20], [], false⟩, ⟨[0, 1, 2, 3], false, [14, 15, 19, 20], [], false⟩, ⟨[0, 1, 2], false, [12, 13, 19, 20], [3, 4], false⟩, ⟨[0, 1, 2, 5], false, [12, 13, 19, 20], [3, 4], false⟩, ⟨[0, 1, 2, 3, 4, 5, 6], false, [19, 20], [], false⟩, ⟨[0, 1, 2, 3, 4, 5, 6, 7], false, [19, 20], [], false⟩, ⟨[0, 1, 2, 3, 4, 5, 6, 7, 8], false, [19, 20], [], false⟩, ⟨[0, 1, 2], false, [12, 13, 14, 15, 16, 17, 18], [3, 4, 5, 6, 7, 8, 9], false⟩, ⟨[0, 1, 2, 10], false, [12, 13, 14, 15, 16, 17, 18], [3, 4, 5, 6, 7, 8, 9], false⟩, ⟨[0, 1, 2, 3, 4, 5, 6, 7, 8, 9, 10, 11], false, [], [], false⟩, ⟨[0, 1, 2, 3, 4, 5, 6, 7, 8, 9, 10, 11, 12], true, [], [], false⟩] (by decide) ?_
    simp (maxSteps := 2000000) -implicitDefEqProofs only [zz, zE, evop, ev, ofVal, tget, tput, ok, V.isUndef, intBin, guardOf, Ch.on, told, xport, xports, hget, hput, V.cells, V.one, structAt, sliceOf, Blk.width, lenOf, splice, resOf, resV, resVs, ↓reduceIte, reduceCtorEq, Nat.reduceLT, Nat.reduceEqDiff, Nat.reduceAdd, Nat.reduceSub, Nat.reduceLeDiff, nilTest, bT, bZ, Int.lt_irrefl]
    by_cases hd : u.pc = (c.length : Int)
    · have e : (u.pc == (c.length : Int)) = true := by simpa using hd
      rw [hfin, doneT, if_pos hd]
      simp (maxSteps := 2000000) -implicitDefEqProofs only [↓reduceIte, e]
    · have e : (u.pc == (c.length : Int)) = false := by simpa using hd
      rw [hfin, doneT, if_neg hd]
      simp (maxSteps := 2000000) -implicitDefEqProofs only [zz, ↓reduceIte, e]
  · obtain ⟨f, hx⟩ : ∃ f, u.frames[k]? = some f := ⟨_, List.getElem?_eq_getElem (by omega)⟩
    have hpos : (((k + 1 : Nat) : Int) > 0) := by omega
    have hwk : IntKind.i64.wrap (((k + 1 : Nat) : Int) - 1) = (k : Int) := by rw [wrap_in (by omega)]; omega
    refine wdraw_plan [⟨[], true, [], [], false⟩, ⟨[0], true, [], [], false⟩, ⟨[0, 1], true, [], [], false⟩, ⟨[0, 1, 2], false, [14, 15, 19, 20], [], false⟩, ⟨[0, 1, 2, 3], false, [14, 15, 19, 20], [], false⟩, ⟨[0, 1, 2], false, [12, 13, 19, 20], [3, 4], false⟩, ⟨[0, 1, 2, 5], false, [12, 13, 19, 20], [3, 4], false⟩, ⟨[0, 1, 2, 3, 4, 5, 6], false, [19, 20], [], false⟩, ⟨[0, 1, 2, 3, 4, 5, 6, 7], false, [19, 20], [], false⟩, ⟨[0, 1, 2, 3, 4, 5, 6, 7, 8], false, [19, 20], [], false⟩, ⟨[0, 1, 2], false, [12, 13, 14, 15, 16, 17, 18], [3, 4, 5, 6, 7, 8, 9], false⟩, ⟨[0, 1, 2, 10], false, [12, 13, 14, 15, 16, 17, 18], [3, 4, 5, 6, 7, 8, 9], false⟩, ⟨[0, 1, 2, 3, 4, 5, 6, 7, 8, 9, 10, 11], false, [], [], false⟩, ⟨[0, 1, 2, 3, 4, 5, 6, 7, 8, 9, 10, 11, 12], true, [], [], false⟩] (by decide) ?_
    simp (maxSteps := 2000000) -implicitDefEqProofs only [zz, zE, evop, ev, ofVal, tget, tput, ok, V.isUndef, intBin, guardOf, Ch.on, calleeOf, withArgs, told, xport, xports, hget, hput, V.cells, D.cells, V.isAgg, V.one, loadD, structAt, sliceOf, bound, Blk.width, lenOf, splice, resOf, resV, resVs, ↓reduceIte, reduceCtorEq, Nat.reduceLT, Nat.reduceEqDiff, Nat.reduceAdd, Nat.reduceSub, Nat.reduceLeDiff, nilTest, dFr, bT, bZ, hpos, hwk, List.getElem?_map, hx, Option.map_some, Int.natCast_nonneg]
    by_cases hm : f.mid = u.pc
    · have e : (f.mid == u.pc) = true := by simpa using hm
      have hdl : u.frames.dropLast = u.frames.take k := by rw [List.dropLast_eq_take, hn]; rfl
      have hw0 : IntKind.i64.wrap (k : Int) = (k : Int) := by rw [wrap_in (by omega)]
      have er : List.take ((k : Int) - 0).toNat (u.frames.map dFr) = u.frames.dropLast.map dFr := by
        rw [hdl, List.map_take]; simp
      have hk := c_W_Keep u.log hl1 hl2
      unfold dLE at hk
      obtain ⟨q1, q2⟩ := logKeep_lens u.log
      simp (maxSteps := 2000000) -implicitDefEqProofs only [↓reduceIte, e, er]
      refine ⟨⟨Int.le_refl _, by omega, okCells_Fr _⟩, ?_⟩
      refine acall_ice (by first | rfl | (simp only [xports, xport, hget]; rfl)) (hk) ?_
      try simp (maxSteps := 2000000) -implicitDefEqProofs only [zz, zE, evop, ev, ofVal, tget, tput, ok, V.isUndef, intBin, Ch.on, tids, tidss, hget, hput, freeze, V.cells, V.one, structAt, Blk.width, splice, ↓reduceIte, reduceCtorEq, Nat.reduceLT, Nat.reduceEqDiff, Nat.reduceAdd, Nat.reduceLeDiff, nilTest, dLg]
      refine ⟨(popT u f, k), ⟨?_, ?_, ?_, ?_, ?_⟩, by simp only; omega, ?_⟩
      · rw [← hs, setF, hx]
        simp only
        rw [if_pos hm]
      · simp only [popT, hdl, List.length_take]; omega
      · simp only [popT]; omega
      · simp only [popT]; omega
      · simp only; omega
      · exact Weak.trims 2 rfl (by simp [tget, V.lower, hw0]) (by simp [bT, bZ, Blk.lower, lowerL, V.lower])
    · have e : (f.mid == u.pc) = false := by simpa using hm
      have hfin := fin (by rw [setF, hx]; simp only; rw [if_neg hm])
      simp (maxSteps := 2000000) -implicitDefEqProofs only [zz, ↓reduceIte, e]
      by_cases hd : u.pc = (c.length : Int)
      · have e : (u.pc == (c.length : Int)) = true := by simpa using hd
        rw [hfin, doneT, if_pos hd]
        simp (maxSteps := 2000000) -implicitDefEqProofs only [↓reduceIte, e]
      · have e : (u.pc == (c.length : Int)) = false := by simpa using hd
        rw [hfin, doneT, if_neg hd]
        simp (maxSteps := 2000000) -implicitDefEqProofs only [zz, ↓reduceIte, e]
end Go.Proofs.YtjhfpabldidlgaaGreat.AM

/- The document's small functions. -/
set_option linter.all false
set_option maxRecDepth 100000
set_option maxHeartbeats 4000000
namespace Go.Proofs.YtjhfpabldidlgaaGreat.AM
open Go Go.RowKit

theorem c_r03_Numbers (a b : List Int) (ha : a.length ≤ 1000000) (hb : b.length ≤ 1000000) : CSpec Tryz.prog 49 [.vec (a.map dI), .vec (b.map dI)] (.bool (decide (a = b))) := by
  refine CSpec.of_awp envOf_ok hmix Tryz.func49 rfl (fun args w => Tryz.call49 args w) (by simp [Tryz.f49]) ?_
  simp only [Tryz.f49]
  simp (maxSteps := 2000000) -implicitDefEqProofs only [zz, zE, evop, ev, ofVal, tget, tput, ok, V.isUndef, intBin, initT, Ch.on, told, xport, sliceOf, lenOf, resOf, resV, resVs, ↓reduceIte, reduceCtorEq, Nat.reduceLT, Nat.reduceEqDiff, nilTest]
  by_cases hlen : a.length = b.length
  case neg =>
    have e : ((a.length : Int) != (b.length : Int)) = true := by simp; omega
    have : a ≠ b := fun e => hlen (by rw [e])
    simp (maxSteps := 2000000) -implicitDefEqProofs only [↓reduceIte, e]
    simp [this]
  have e : ((a.length : Int) != (b.length : Int)) = false := by simp; omega
  simp (maxSteps := 2000000) -implicitDefEqProofs only [zz, ↓reduceIte, e]
  refine wloop_ind (σ := Nat) (fun i => a.length - i) (fun i => [(5, .d (.int .i64 i)), (0, .d (.vec (a.map dI))), (1, .d (.vec (b.map dI)))]) (fun _ => []) (fun i => i ≤ a.length ∧ ∀ j < i, a[j]? = b[j]?) 0 ⟨Nat.zero_le _, fun j hj => by omega⟩ (Weak.sub (by simp [tget])) ?_
  rintro i ⟨hi, hI⟩
  rcases Nat.lt_or_ge i a.length with hlt | hge
  · have hx : a[i]? = some a[i] := List.getElem?_eq_getElem hlt
    have hy : b[i]? = some b[i] := List.getElem?_eq_getElem (by omega)
    have h' : ((i : Int) < (a.length : Int)) := by omega
    have hw : IntKind.i64.wrap ((i : Int) + 1) = ((i + 1 : Nat) : Int) := by rw [wrap_in (by omega)]; omega
    simp (maxSteps := 2000000) -implicitDefEqProofs only [zz, zE, evop, ev, tget, tput, ok, V.isUndef, intBin, Ch.on, told, sliceOf, lenOf, ↓reduceIte, reduceCtorEq, Nat.reduceLT, Nat.reduceEqDiff, nilTest, h']
    refine wdraw_plan [⟨[], false, [18, 21, 22, 23, 24], [], false⟩, ⟨[], false, [17, 21, 22, 23, 24], [0], false⟩, ⟨[0, 1], false, [21, 22, 23, 24], [], false⟩, ⟨[0, 1, 2], false, [21, 22, 23, 24], [], false⟩, ⟨[], false, [17, 18, 19, 20, 22], [0, 1, 2, 3], false⟩, ⟨[], false, [17, 18, 19, 20, 21], [0, 1, 2, 3, 4], false⟩, ⟨[4, 5], false, [17, 18, 19, 20], [0, 1, 2, 3], false⟩, ⟨[4, 5, 6], false, [17, 18, 19, 20], [0, 1, 2, 3], false⟩, ⟨[0, 1, 2, 3, 4, 5, 6, 7], true, [], [], false⟩] (by decide) ?_
    simp (maxSteps := 2000000) -implicitDefEqProofs only [zz, zE, evop, ev, ofVal, tget, tput, ok, V.isUndef, intBin, Ch.on, told, xport, hput, V.cells, D.cells, V.isAgg, loadD, Blk.width, resOf, resV, resVs, ↓reduceIte, reduceCtorEq, Nat.reduceLT, Nat.reduceEqDiff, Nat.reduceAdd, Nat.reduceLeDiff, nilTest, dI, List.getElem?_map, hx, hy, Option.map_some, Int.natCast_nonneg]
    split
    · rename_i hne
      have : a ≠ b := fun e => by subst e; simp at hne
      simp [this]
    · rename_i heq
      have heq' : a[i] = b[i] := by
        simp at heq
        exact heq
      refine ⟨i + 1, ⟨hlt, fun j hj => ?_⟩, by omega, Weak.trims 0 rfl (by simp [tget, hw, V.lower]) (by simp)⟩
      by_cases e : j = i
      · subst e; rw [hx, hy, heq']
      · exact hI j (by omega)
  · have h' : ¬ ((i : Int) < (a.length : Int)) := by omega
    simp (maxSteps := 2000000) -implicitDefEqProofs only [zz, zE, evop, ev, ofVal, tget, tput, ok, V.isUndef, intBin, Ch.on, told, xport, sliceOf, lenOf, resOf, resV, resVs, ↓reduceIte, reduceCtorEq, Nat.reduceLT, Nat.reduceEqDiff, nilTest, h']
    have : a = b := List.ext_getElem? (fun j => by
      rcases Nat.lt_or_ge j a.length with h | h
      · exact hI j (by omega)
      · rw [List.getElem?_eq_none h, List.getElem?_eq_none (by omega)])
    simp [this]
theorem c_r10_numbers (a b : List Int) (ha : a.length ≤ 1000000) (hb : b.length ≤ 1000000) : CSpec Tryz.prog 75 [.vec (a.map dI), .vec (b.map dI)] (.bool (decide (a = b))) := by
  refine CSpec.of_awp envOf_ok hmix Tryz.func75 rfl (fun args w => Tryz.call75 args w) (by simp [Tryz.f75]) ?_
  simp only [Tryz.f75]
  simp (maxSteps := 2000000) -implicitDefEqProofs only [zz, zE, evop, ev, ofVal, tget, tput, ok, V.isUndef, intBin, initT, Ch.on, told, xport, sliceOf, lenOf, resOf, resV, resVs, ↓reduceIte, reduceCtorEq, Nat.reduceLT, Nat.reduceEqDiff, nilTest]
  by_cases hlen : a.length = b.length
  case neg =>
    have e : ((a.length : Int) != (b.length : Int)) = true := by simp; omega
    have : a ≠ b := fun e => hlen (by rw [e])
    simp (maxSteps := 2000000) -implicitDefEqProofs only [↓reduceIte, e]
    simp [this]
  have e : ((a.length : Int) != (b.length : Int)) = false := by simp; omega
  simp (maxSteps := 2000000) -implicitDefEqProofs only [zz, ↓reduceIte, e]
  refine wloop_ind (σ := Nat) (fun i => a.length - i) (fun i => [(5, .d (.int .i64 i)), (0, .d (.vec (a.map dI))), (1, .d (.vec (b.map dI)))]) (fun _ => []) (fun i => i ≤ a.length ∧ ∀ j < i, a[j]? = b[j]?) 0 ⟨Nat.zero_le _, fun j hj => by omega⟩ (Weak.sub (by simp [tget])) ?_
  rintro i ⟨hi, hI⟩
  rcases Nat.lt_or_ge i a.length with hlt | hge
  · have hx : a[i]? = some a[i] := List.getElem?_eq_getElem hlt
    have hy : b[i]? = some b[i] := List.getElem?_eq_getElem (by omega)
    have h' : ((i : Int) < (a.length : Int)) := by omega
    have hw : IntKind.i64.wrap ((i : Int) + 1) = ((i + 1 : Nat) : Int) := by rw [wrap_in (by omega)]; omega
    simp (maxSteps := 2000000) -implicitDefEqProofs only [zz, zE, evop, ev, tget, tput, ok, V.isUndef, intBin, Ch.on, told, sliceOf, lenOf, ↓reduceIte, reduceCtorEq, Nat.reduceLT, Nat.reduceEqDiff, nilTest, h']
    refine wdraw_plan [⟨[], false, [18, 21, 22, 23, 24], [], false⟩, ⟨[], false, [17, 21, 22, 23, 24], [0], false⟩, ⟨[0, 1], false, [21, 22, 23, 24], [], false⟩, ⟨[0, 1, 2], false, [21, 22, 23, 24], [], false⟩, ⟨[], false, [17, 18, 19, 20, 22], [0, 1, 2, 3], false⟩, ⟨[], false, [17, 18, 19, 20, 21], [0, 1, 2, 3, 4], false⟩, ⟨[4, 5], false, [17, 18, 19, 20], [0, 1, 2, 3], false⟩, ⟨[4, 5, 6], false, [17, 18, 19, 20], [0, 1, 2, 3], false⟩, ⟨[0, 1, 2, 3, 4, 5, 6, 7], true, [], [], false⟩] (by decide) ?_
    simp (maxSteps := 2000000) -implicitDefEqProofs only [zz, zE, evop, ev, ofVal, tget, tput, ok, V.isUndef, intBin, Ch.on, told, xport, hput, V.cells, D.cells, V.isAgg, loadD, Blk.width, resOf, resV, resVs, ↓reduceIte, reduceCtorEq, Nat.reduceLT, Nat.reduceEqDiff, Nat.reduceAdd, Nat.reduceLeDiff, nilTest, dI, List.getElem?_map, hx, hy, Option.map_some, Int.natCast_nonneg]
    split
    · rename_i hne
      have : a ≠ b := fun e => by subst e; simp at hne
      simp [this]
    · rename_i heq
      have heq' : a[i] = b[i] := by
        simp at heq
        exact heq
      refine ⟨i + 1, ⟨hlt, fun j hj => ?_⟩, by omega, Weak.trims 0 rfl (by simp [tget, hw, V.lower]) (by simp)⟩
      by_cases e : j = i
      · subst e; rw [hx, hy, heq']
      · exact hI j (by omega)
  · have h' : ¬ ((i : Int) < (a.length : Int)) := by omega
    simp (maxSteps := 2000000) -implicitDefEqProofs only [zz, zE, evop, ev, ofVal, tget, tput, ok, V.isUndef, intBin, Ch.on, told, xport, sliceOf, lenOf, resOf, resV, resVs, ↓reduceIte, reduceCtorEq, Nat.reduceLT, Nat.reduceEqDiff, nilTest, h']
    have : a = b := List.ext_getElem? (fun j => by
      rcases Nat.lt_or_ge j a.length with h | h
      · exact hI j (by omega)
      · rw [List.getElem?_eq_none h, List.getElem?_eq_none (by omega)])
    simp [this]
theorem c_r05_Same (a b : List Rd) (ha : a.length ≤ 1000000) (hb : b.length ≤ 1000000) : CSpec Tryz.prog 59 [.vec (a.map dRd), .vec (b.map dRd)] (.bool (decide (a = b))) := by
  refine CSpec.of_awp envOf_ok hmix Tryz.func59 rfl (fun args w => Tryz.call59 args w) (by simp [Tryz.f59]) ?_
  simp only [Tryz.f59]
  simp (maxSteps := 2000000) -implicitDefEqProofs only [zz, zE, evop, ev, ofVal, tget, tput, ok, V.isUndef, intBin, initT, Ch.on, told, xport, sliceOf, lenOf, resOf, resV, resVs, ↓reduceIte, reduceCtorEq, Nat.reduceLT, Nat.reduceEqDiff, nilTest]
  by_cases hlen : a.length = b.length
  case neg =>
    have e : ((a.length : Int) != (b.length : Int)) = true := by simp; omega
    have : a ≠ b := fun e => hlen (by rw [e])
    simp (maxSteps := 2000000) -implicitDefEqProofs only [↓reduceIte, e]
    simp [this]
  have e : ((a.length : Int) != (b.length : Int)) = false := by simp; omega
  simp (maxSteps := 2000000) -implicitDefEqProofs only [zz, ↓reduceIte, e]
  refine wloop_ind (σ := Nat) (fun i => a.length - i) (fun i => [(5, .d (.int .i64 i)), (0, .d (.vec (a.map dRd))), (1, .d (.vec (b.map dRd)))]) (fun _ => []) (fun i => i ≤ a.length ∧ ∀ j < i, a[j]? = b[j]?) 0 ⟨Nat.zero_le _, fun j hj => by omega⟩ (Weak.sub (by simp [tget])) ?_
  rintro i ⟨hi, hI⟩
  rcases Nat.lt_or_ge i a.length with hlt | hge
  · have hx : a[i]? = some a[i] := List.getElem?_eq_getElem hlt
    have hy : b[i]? = some b[i] := List.getElem?_eq_getElem (by omega)
    have h' : ((i : Int) < (a.length : Int)) := by omega
    have hw : IntKind.i64.wrap ((i : Int) + 1) = ((i + 1 : Nat) : Int) := by rw [wrap_in (by omega)]; omega
    simp (maxSteps := 2000000) -implicitDefEqProofs only [zz, zE, evop, ev, tget, tput, ok, V.isUndef, intBin, Ch.on, told, sliceOf, lenOf, ↓reduceIte, reduceCtorEq, Nat.reduceLT, Nat.reduceEqDiff, nilTest, h']
    refine wdraw_plan [⟨[], false, [18, 21, 22, 23, 24], [], false⟩, ⟨[], false, [17, 21, 22, 23, 24], [0], false⟩, ⟨[0, 1], false, [21, 22, 23, 24], [], false⟩, ⟨[0, 1, 2], false, [21, 22, 23, 24], [], false⟩, ⟨[], false, [17, 18, 19, 20, 22], [0, 1, 2, 3], false⟩, ⟨[], false, [17, 18, 19, 20, 21], [0, 1, 2, 3, 4], false⟩, ⟨[4, 5], false, [17, 18, 19, 20], [0, 1, 2, 3], false⟩, ⟨[4, 5, 6], false, [17, 18, 19, 20], [0, 1, 2, 3], false⟩, ⟨[0, 1, 2, 3, 4, 5, 6, 7], true, [], [], false⟩] (by decide) ?_
    simp (maxSteps := 2000000) -implicitDefEqProofs only [zz, zE, evop, ev, ofVal, tget, tput, ok, V.isUndef, intBin, Ch.on, told, xport, hput, V.cells, D.cells, V.isAgg, V.clo, clos, loadD, eqCells, D.scalarEq, Blk.width, resOf, resV, resVs, ↓reduceIte, reduceCtorEq, Nat.reduceLT, Nat.reduceEqDiff, Nat.reduceAdd, Nat.reduceLeDiff, nilTest, dRd, List.getElem?_map, hx, hy, Option.map_some, Int.natCast_nonneg]
    split
    · rename_i hne
      have : a ≠ b := fun e => by subst e; simp at hne
      simp [this]
    · rename_i heq
      have heq' : a[i] = b[i] := by
        simp at heq
        exact Prod.ext heq.1 (Prod.ext heq.2.1 heq.2.2)
      refine ⟨i + 1, ⟨hlt, fun j hj => ?_⟩, by omega, Weak.trims 0 rfl (by simp [tget, hw, V.lower]) (by simp)⟩
      by_cases e : j = i
      · subst e; rw [hx, hy, heq']
      · exact hI j (by omega)
  · have h' : ¬ ((i : Int) < (a.length : Int)) := by omega
    simp (maxSteps := 2000000) -implicitDefEqProofs only [zz, zE, evop, ev, ofVal, tget, tput, ok, V.isUndef, intBin, Ch.on, told, xport, sliceOf, lenOf, resOf, resV, resVs, ↓reduceIte, reduceCtorEq, Nat.reduceLT, Nat.reduceEqDiff, nilTest, h']
    have : a = b := List.ext_getElem? (fun j => by
      rcases Nat.lt_or_ge j a.length with h | h
      · exact hI j (by omega)
      · rw [List.getElem?_eq_none h, List.getElem?_eq_none (by omega)])
    simp [this]

theorem c_r03_Who (n : Int) : CSpec Tryz.prog 55 [.int .i64 n] (.bool (decide (1 ≤ n) && decide (n ≤ 8))) := by
  refine CSpec.of_awp envOf_ok hmix Tryz.func55 rfl (fun args w => Tryz.call55 args w) (by simp [Tryz.f55]) ?_
  simp only [Tryz.f55]
  simp (maxSteps := 2000000) -implicitDefEqProofs only [zz, evop, ev, ofVal, tget, tput, ok, V.isUndef, intBin, guardOf, initT, Ch.on, xport, resOf, resV, resVs, ↓reduceIte, reduceCtorEq, Nat.reduceLT, Nat.reduceEqDiff, nilTest]
  (repeat' split) <;> (first | rfl | (simp_all [IntKind.wrap_i64]; done) | (simp [IntKind.wrap_i64] at * <;> omega) | (simp_all [IntKind.wrap_i64] <;> omega) | (congr 2; rw [Bool.eq_iff_iff]; simp_all; omega) | grind)

theorem c_r03_Right (l : List (Int × Int)) (hl : l.length ≤ 1000000) : CSpec Tryz.prog 66 [.vec (l.map dW)] (.bool (tableR l)) := by
  refine CSpec.of_awp envOf_ok hmix Tryz.func66 rfl (fun args w => Tryz.call66 args w) (by simp [Tryz.f66]) ?_
  simp only [Tryz.f66]
  simp (maxSteps := 2000000) -implicitDefEqProofs only [zz, evop, ev, ofVal, tput, ok, V.isUndef, initT, Ch.on, ↓reduceIte, Nat.reduceLT]
  refine wloop_ind (σ := Nat) (fun i => l.length - i) (fun i => [(3, .d (.int .i64 i)), (0, .d (.vec (l.map dW)))]) (fun _ => []) (fun i => i ≤ l.length ∧ ∀ j < i, ∀ x, l[j]? = some x → wrongR x = false) 0 ⟨Nat.zero_le _, fun j hj => by omega⟩ (Weak.sub (by simp [tget])) ?_
  rintro i ⟨hi, hb⟩
  rcases Nat.lt_or_ge i l.length with hlt | hge
  · have hx : l[i]? = some l[i] := List.getElem?_eq_getElem hlt
    have h' : ((i : Int) < (l.length : Int)) := by omega
    have hw : IntKind.i64.wrap ((i : Int) + 1) = ((i + 1 : Nat) : Int) := by rw [wrap_in (by omega)]; omega
    have bad : wrongR l[i] = true → tableR l = false := fun hc => by
      have : l.any wrongR = true := List.any_eq_true.2 ⟨_, List.getElem_mem hlt, hc⟩
      simp [tableR, this]
    have good : wrongR l[i] = false → ∀ j < i + 1, ∀ x, l[j]? = some x → wrongR x = false := fun hc j hj x hxj => by
      by_cases e : j = i
      · subst e; rw [hx] at hxj; cases hxj; exact hc
      · exact hb j (by omega) x hxj
    simp (maxSteps := 2000000) -implicitDefEqProofs only [zz, zE, evop, ev, ofVal, tget, tput, ok, V.isUndef, intBin, guardOf, Ch.on, told, xport, D.cells, loadD, structAt, sliceOf, lenOf, resOf, resV, resVs, ↓reduceIte, reduceCtorEq, Nat.reduceLT, Nat.reduceEqDiff, Nat.reduceAdd, nilTest, dW, h', List.getElem?_map, hx, Option.map_some, Int.natCast_nonneg]
    by_cases h1 : l[i].1 < 0
    · simp (maxSteps := 2000000) -implicitDefEqProofs only [zz, ↓reduceIte, h1]
      rw [bad (by simp [wrongR, h1])]
    by_cases h2 : l[i].1 > 2147483647
    · simp (maxSteps := 2000000) -implicitDefEqProofs only [zz, ↓reduceIte, h1, h2]
      have h2' : 2147483647 < l[i].1 := h2
      rw [bad (by simp [wrongR, h2'])]
    by_cases h3 : l[i].2 < 0
    · simp (maxSteps := 2000000) -implicitDefEqProofs only [zz, ↓reduceIte, h1, h2, h3]
      rw [bad (by simp [wrongR, h3])]
    by_cases h4 : l[i].2 > 8
    · simp (maxSteps := 2000000) -implicitDefEqProofs only [zz, ↓reduceIte, h1, h2, h3, h4]
      have h4' : 8 < l[i].2 := h4
      rw [bad (by simp [wrongR, h4'])]
    simp (maxSteps := 2000000) -implicitDefEqProofs only [zz, ↓reduceIte, h1, h2, h3, h4, hw]
    refine ⟨i + 1, ⟨hlt, good ?_⟩, by omega, Weak.trims 0 rfl (by simp [tget, V.lower]) (by simp)⟩
    have g2 : ¬ 2147483647 < l[i].1 := h2
    have g4 : ¬ 8 < l[i].2 := h4
    simp only [wrongR, decide_eq_false h1, decide_eq_false g2, decide_eq_false h3, decide_eq_false g4, Bool.or_false]
  · have h' : ¬ ((i : Int) < (l.length : Int)) := by omega
    have hany : l.any wrongR = false := by
      rw [List.any_eq_false]
      intro x hx
      obtain ⟨j, hj, rfl⟩ := List.getElem_of_mem hx
      have := hb j (by omega) _ (List.getElem?_eq_getElem hj)
      simp [this]
    by_cases h0 : (l.length : Int) > 0
    · simp (maxSteps := 2000000) -implicitDefEqProofs only [zz, zE, evop, ev, ofVal, tget, tput, ok, V.isUndef, intBin, guardOf, Ch.on, told, xport, sliceOf, lenOf, resOf, resV, resVs, ↓reduceIte, reduceCtorEq, Nat.reduceLT, Nat.reduceEqDiff, nilTest, h', h0]
      congr 2
      rw [Bool.eq_iff_iff]; simp [tableR, hany]; omega
    · simp (maxSteps := 2000000) -implicitDefEqProofs only [zz, zE, evop, ev, ofVal, tget, tput, ok, V.isUndef, intBin, guardOf, Ch.on, told, xport, sliceOf, lenOf, resOf, resV, resVs, ↓reduceIte, reduceCtorEq, Nat.reduceLT, Nat.reduceEqDiff, nilTest, h', h0]
      congr 2
      rw [Bool.eq_iff_iff]; simp [tableR, hany]; omega

theorem c_r05_Find (l : List Rd) (c : Int) (hl : l.length ≤ 1000000) : CSpec Tryz.prog 124 [.vec (l.map dRd), .int .i64 c] (.int .i64 (placeR l c)) := by
  refine CSpec.of_awp envOf_ok hmix Tryz.func124 rfl (fun args w => Tryz.call124 args w) (by simp [Tryz.f124]) ?_
  simp only [Tryz.f124]
  simp (maxSteps := 2000000) -implicitDefEqProofs only [zz, evop, ev, ofVal, tput, ok, V.isUndef, initT, Ch.on, ↓reduceIte, Nat.reduceLT, Int.reduceNeg]
  refine wloop_ind (σ := Nat) (fun i => l.length - i) (fun i => [(5, .d (.int .i64 i)), (0, .d (.vec (l.map dRd))), (1, .d (.int .i64 c))]) (fun _ => []) (fun i => i ≤ l.length ∧ ∀ j < i, ∀ x, l[j]? = some x → (x.1 == c) = false) 0 ⟨Nat.zero_le _, fun j hj => by omega⟩ (Weak.sub (by simp [tget])) ?_
  rintro i ⟨hi, hb⟩
  rcases Nat.lt_or_ge i l.length with hlt | hge
  · have hx : l[i]? = some l[i] := List.getElem?_eq_getElem hlt
    have h' : ((i : Int) < (l.length : Int)) := by omega
    have hw : IntKind.i64.wrap ((i : Int) + 1) = ((i + 1 : Nat) : Int) := by rw [wrap_in (by omega)]; omega
    simp (maxSteps := 2000000) -implicitDefEqProofs only [zz, zE, evop, ev, ofVal, tget, tput, ok, V.isUndef, intBin, Ch.on, told, xport, D.cells, loadD, structAt, sliceOf, lenOf, resOf, resV, resVs, ↓reduceIte, reduceCtorEq, Nat.reduceLT, Nat.reduceEqDiff, Nat.reduceAdd, Int.reduceNeg, nilTest, dRd, h', List.getElem?_map, hx, Option.map_some, Int.natCast_nonneg]
    cases hc : (l[i].1 == c) with
    | true =>
      simp (maxSteps := 2000000) -implicitDefEqProofs only [↓reduceIte]
      simp [placeR, idxOf, findIdx_at (p := fun r : Rd => r.1 == c) hlt hb hc]
    | false =>
      simp (maxSteps := 2000000) -implicitDefEqProofs only [zz, ↓reduceIte, hw]
      refine ⟨i + 1, ⟨hlt, fun j hj x hxj => ?_⟩, by omega, Weak.trims 0 rfl (by simp [tget, V.lower]) (by simp)⟩
      by_cases e : j = i
      · subst e; rw [hx] at hxj; cases hxj; exact hc
      · exact hb j (by omega) x hxj
  · have h' : ¬ ((i : Int) < (l.length : Int)) := by omega
    simp (maxSteps := 2000000) -implicitDefEqProofs only [zz, zE, evop, ev, ofVal, tget, tput, ok, V.isUndef, intBin, Ch.on, told, xport, sliceOf, lenOf, resOf, resV, resVs, ↓reduceIte, reduceCtorEq, Nat.reduceLT, Nat.reduceEqDiff, Int.reduceNeg, nilTest, h']
    have : l.findIdx? (fun r => r.1 == c) = none := by
      rw [List.findIdx?_eq_none_iff]
      intro x hx
      obtain ⟨j, hj, rfl⟩ := List.getElem_of_mem hx
      exact hb j (by omega) _ (List.getElem?_eq_getElem hj)
    simp [placeR, idxOf, this]

theorem c_r11_ended (t : Ty) (k w : Int) : CSpec Tryz.prog 71 [dT t, .int .i64 k, .int .i64 w] (dT (endT t k w)) := by
  refine CSpec.of_awp envOf_ok hmix Tryz.func71 rfl (fun args w => Tryz.call71 args w) (by simp [Tryz.f71]) ?_
  simp only [Tryz.f71]
  simp (maxSteps := 2000000) -implicitDefEqProofs only [zz, zE, evop, ev, tget, V.isUndef, initT, V.cells, ↓reduceIte, Nat.reduceAdd]
  unfold dT tyC endT
  simp (maxSteps := 2000000) -implicitDefEqProofs only [zz, zE, evop, ev, tget, tput, ok, V.isUndef, Ch.on, xport, xports, hget, hput, V.cells, V.one, structAt, Blk.width, splice, resOf, resV, resVs, ↓reduceIte, reduceCtorEq, Nat.reduceLT, Nat.reduceEqDiff, Nat.reduceAdd, Nat.reduceLeDiff]

theorem c_r11_with (regs : List Int) (at' v : Int) (hl : regs.length ≤ 1000000) (ha : 0 ≤ at') : CSpec Tryz.prog 69 [.vec (regs.map dI), .int .i64 at', .int .i64 v] (.vec ((regs.set at'.toNat v).map dI)) := by
  have hset : ∀ i, i < regs.length → (regs.set at'.toNat v).take (i + 1) = (regs.set at'.toNat v).take i ++ [if (i : Int) = at' then v else (regs[i]?).getD 0] := fun i hi => by
    rw [List.take_succ]
    congr 1
    by_cases e : (i : Int) = at'
    · rw [if_pos e]
      have : at'.toNat = i := by omega
      rw [this, List.getElem?_set_self (by omega)]; rfl
    · rw [if_neg e, List.getElem?_set_ne (by omega), List.getElem?_eq_getElem hi]; rfl
  refine CSpec.of_awp envOf_ok hmix Tryz.func69 rfl (fun args w => Tryz.call69 args w) (by simp [Tryz.f69]) ?_
  simp only [Tryz.f69]
  simp (maxSteps := 2000000) -implicitDefEqProofs only [zz, evop, ev, ofVal, tput, ok, V.isUndef, initT, Ch.on, ↓reduceIte, Nat.reduceLT, Nat.reduceAdd]
  refine wloop_count regs.length (fun i => [(8, .d (.int .i64 i)), (7, .own 0 0 i), (0, .d (.vec (regs.map dI))), (1, .d (.int .i64 at')), (2, .d (.int .i64 v))]) (fun i => [.dat false 1 (((regs.set at'.toNat v).take i).map dI)]) (fun _ => True) trivial ?_ (fun i hi _ => ?_) (fun _ => ?_)
  · refine Weak.pick [7] (by simp) (by simp) rfl (fun q hq => ?_) (fun i hi => ?_)
    · simp only [List.mem_cons, List.not_mem_nil, or_false] at hq
      rcases hq with rfl | rfl | rfl | rfl | rfl
      · exact .same _
      · exact .nils 0 1 rfl
      · exact .same _
      · exact .same _
      · exact .same _
    · obtain rfl : i = 0 := by simpa using hi
      exact .virt 1 rfl rfl
  · have hx : regs[i]? = some regs[i] := List.getElem?_eq_getElem hi
    have h' : ((i : Int) < (regs.length : Int)) := by omega
    have hw : IntKind.i64.wrap ((i : Int) + 1) = ((i + 1 : Nat) : Int) := by rw [wrap_in (by omega)]; omega
    have hs := hset i hi
    have e6 : List.take i ((List.take i (regs.set at'.toNat v)).map dI) = (List.take i (regs.set at'.toNat v)).map dI := by rw [List.take_of_length_le]; simp; omega
    by_cases e : (i : Int) = at'
    · have ee : ((i : Int) == at') = true := by simpa using e
      rw [if_pos e] at hs
      simp (maxSteps := 2000000) -implicitDefEqProofs only [zz, zE, evop, ev, ofVal, tget, tput, ok, V.isUndef, intBin, Ch.on, told, hget, hput, V.cells, D.cells, V.one, V.toD, sliceOf, partsD, elems, lenOf, ↓reduceIte, reduceCtorEq, Nat.reduceLT, Nat.reduceEqDiff, Nat.reduceAdd, Nat.reduceMul, Nat.reduceLeDiff, nilTest, h', ee, hw]
      refine ⟨⟨by omega, okEl_I [v]⟩, ?_⟩
      rw [hs, e6, List.map_append]
      refine Weak.pick [2] (by decide) (by simp) rfl (fun q hq => ?_) (fun i hi => ?_)
      · simp only [List.mem_cons, List.not_mem_nil, or_false] at hq
        rcases hq with rfl | rfl | rfl | rfl | rfl <;> exact .same _
      · match i, hi with
        | 0, _ => exact .dat _ _ _ rfl rfl
        | i + 1, hi => exact absurd hi (by simp)
    · have ee : ((i : Int) == at') = false := by simpa using e
      rw [if_neg e, hx, Option.getD_some] at hs
      simp (maxSteps := 2000000) -implicitDefEqProofs only [zz, zE, evop, ev, ofVal, tget, tput, ok, V.isUndef, intBin, Ch.on, told, hget, hput, V.cells, D.cells, V.one, V.toD, loadD, sliceOf, partsD, elems, lenOf, ↓reduceIte, reduceCtorEq, Nat.reduceLT, Nat.reduceEqDiff, Nat.reduceAdd, Nat.reduceMul, Nat.reduceLeDiff, nilTest, dI, h', ee, List.getElem?_map, hx, Option.map_some, Int.natCast_nonneg, hw]
      refine ⟨⟨by omega, okEl_I [regs[i]]⟩, ?_⟩
      rw [hs, e6, List.map_append]
      refine Weak.pick [2] (by decide) (by simp) rfl (fun q hq => ?_) (fun i hi => ?_)
      · simp only [List.mem_cons, List.not_mem_nil, or_false] at hq
        rcases hq with rfl | rfl | rfl | rfl | rfl <;> exact .same _
      · match i, hi with
        | 0, _ => exact .dat _ _ _ rfl rfl
        | i + 1, hi => exact absurd hi (by simp)
  · have h' : ¬ ((regs.length : Int) < (regs.length : Int)) := by omega
    have et : List.take regs.length (regs.set at'.toNat v) = regs.set at'.toNat v := by rw [List.take_of_length_le]; simp
    simp (maxSteps := 2000000) -implicitDefEqProofs only [zz, zE, evop, ev, tget, tput, ok, V.isUndef, intBin, Ch.on, told, xport, hget, sliceOf, lenOf, resOf, resV, resVs, ↓reduceIte, reduceCtorEq, Nat.reduceLT, Nat.reduceEqDiff, nilTest, h', et]
    rw [List.take_of_length_le (by simp)]
end Go.Proofs.YtjhfpabldidlgaaGreat.AM

/- The parts of the stable sort: swapRange, rotate. -/
set_option linter.all false
set_option maxRecDepth 100000
set_option maxHeartbeats 4000000
namespace Go.Proofs.YtjhfpabldidlgaaGreat.AM
open Go Go.RowKit

theorem two_get {α : Type} {A B C : List α} {u v : α} {i j : Nat} (hi : A.length = i) (hj : i + 1 + B.length = j) : (A ++ u :: (B ++ v :: C))[i]? = some u ∧ (A ++ u :: (B ++ v :: C))[j]? = some v ∧ ((A ++ u :: (B ++ v :: C)).set i v)[j]? = some v ∧ ((A ++ u :: (B ++ v :: C)).set i v).set j u = A ++ v :: (B ++ u :: C) := by
  subst hi; subst hj
  have e1 : ∀ x : α, (A ++ x :: (B ++ v :: C))[A.length + 1 + B.length]? = some v := fun x => by
    rw [List.getElem?_append_right (by omega)]
    have : A.length + 1 + B.length - A.length = B.length + 1 := by omega
    rw [this, List.getElem?_cons_succ, List.getElem?_append_right (Nat.le_refl _), Nat.sub_self]; rfl
  have e2 : (A ++ u :: (B ++ v :: C)).set A.length v = A ++ v :: (B ++ v :: C) := by
    rw [List.set_append_right _ _ (Nat.le_refl _), Nat.sub_self]; rfl
  refine ⟨by rw [List.getElem?_append_right (Nat.le_refl _), Nat.sub_self]; rfl, e1 u, by rw [e2]; exact e1 v, ?_⟩
  rw [e2, List.set_append_right _ _ (by omega)]
  have : A.length + 1 + B.length - A.length = B.length + 1 := by omega
  rw [this, List.set_cons_succ, List.set_append_right _ _ (Nat.le_refl _), Nat.sub_self]; rfl

theorem set_dW' (l : List (Int × Int)) (i : Nat) (a : Int × Int) : (l.map dW).set i (.agg [.int .i64 a.1, .int .i64 a.2]) = (l.set i a).map dW := by
  rw [List.map_set]; rfl

theorem r_swapRange_W (Pre U M Y Post : List (Int × Int)) (N : Nat) (hN : (Pre ++ (U ++ (M ++ (Y ++ Post)))).length = N) (hN' : N ≤ 1000000) (hUV : U.length = Y.length) (b : Nat) (hb : b = Pre.length + U.length + M.length) (f : Nat) :
    RSpec Tryz.prog 240 [.own 0 0 N, .d (.int .i64 Pre.length), .d (.int .i64 b), .d (.int .i64 U.length), .func (f, 0) []] [.dat false 2 ((Pre ++ (U ++ (M ++ (Y ++ Post)))).map dW)] (.tuple [])
      [.dat false 2 ((Pre ++ (Y ++ (M ++ (U ++ Post)))).map dW)] := by
  refine RSpec.of_awp envOf_ok hmix Tryz.func240 rfl (fun args w => Tryz.call240 args w) (by simp [Tryz.f240]) ?_
  simp only [Tryz.f240]
  simp (maxSteps := 2000000) -implicitDefEqProofs only [zz, evop, ev, ofVal, tput, ok, V.isUndef, Ch.on, ↓reduceIte, Nat.reduceLT, Nat.reduceAdd, initV]
  simp only [List.length_append] at hN
  refine wloop_count U.length (fun i => [(10, .d (.int .i64 i)), (0, .own 0 0 N), (1, .d (.int .i64 Pre.length)), (2, .d (.int .i64 b)), (3, .d (.int .i64 U.length)), (4, .func (f, 0) [])])
    (fun i => [.dat false 2 ((Pre ++ ((Y.take i ++ U.drop i) ++ (M ++ ((U.take i ++ Y.drop i) ++ Post)))).map dW)]) (fun i => True) trivial (Weak.sub (by simp [tget])) (fun i hi _ => ?_) (fun _ => ?_)
  · have h' : ((i : Int) < (U.length : Int)) := by omega
    obtain ⟨u, hu⟩ : ∃ u, u = U[i] := ⟨_, rfl⟩
    obtain ⟨v, hv⟩ : ∃ v, v = Y[i]'(by omega) := ⟨_, rfl⟩
    have hL : Pre ++ ((Y.take i ++ U.drop i) ++ (M ++ ((U.take i ++ Y.drop i) ++ Post))) = (Pre ++ Y.take i) ++ u :: ((U.drop (i + 1) ++ M ++ U.take i) ++ v :: (Y.drop (i + 1) ++ Post)) := by
      rw [List.drop_eq_getElem_cons hi, List.drop_eq_getElem_cons (l := Y) (by omega), ← hu, ← hv]; simp
    have hL2 : Pre ++ ((Y.take (i + 1) ++ U.drop (i + 1)) ++ (M ++ ((U.take (i + 1) ++ Y.drop (i + 1)) ++ Post))) = (Pre ++ Y.take i) ++ v :: ((U.drop (i + 1) ++ M ++ U.take i) ++ u :: (Y.drop (i + 1) ++ Post)) := by
      rw [List.take_add_one (l := Y), List.take_add_one (l := U), List.getElem?_eq_getElem hi, List.getElem?_eq_getElem (l := Y) (by omega), ← hu, ← hv]; simp
    obtain ⟨g1, g2, g3, g4⟩ := two_get (A := Pre ++ Y.take i) (B := U.drop (i + 1) ++ M ++ U.take i) (C := Y.drop (i + 1) ++ Post) (u := u) (v := v) (i := Pre.length + i) (j := b + i) (by simp; omega) (by simp; omega)
    have hw1 : IntKind.i64.wrap ((Pre.length : Int) + (i : Int)) = ((Pre.length + i : Nat) : Int) := by rw [wrap_in (by omega)]; omega
    have hw2 : IntKind.i64.wrap ((b : Int) + (i : Int)) = ((b + i : Nat) : Int) := by rw [wrap_in (by omega)]; omega
    have hw3 : IntKind.i64.wrap ((i : Int) + 1) = ((i + 1 : Nat) : Int) := by rw [wrap_in (by omega)]; omega
    rw [hL, hL2]
    simp (maxSteps := 2000000) -implicitDefEqProofs only [zz, evop, ev, tget, tput, ok, V.isUndef, intBin, Ch.on, told, ↓reduceIte, reduceCtorEq, Nat.reduceLT, Nat.reduceEqDiff, nilTest, h']
    refine wdraw_plan [⟨[], false, [17, 18, 19, 20, 21, 22, 23, 24, 25, 26, 27, 28, 29, 30, 31, 32, 33, 34, 35], [], false⟩, ⟨[], false, [16, 18, 20, 21, 22, 23, 24, 25, 26, 27, 28, 29, 30, 31, 32, 33, 34, 35], [0], false⟩, ⟨[], false, [16, 17, 20, 21, 22, 23, 24, 25, 26, 27, 28, 29, 30, 31, 32, 33, 34, 35], [0, 1], false⟩, ⟨[1, 2], false, [16, 20, 21, 22, 23, 24, 25, 26, 27, 28, 29, 30, 31, 32, 33, 34, 35], [0], false⟩, ⟨[], false, [16, 17, 18, 19, 20, 21, 22, 23, 24, 25, 26, 27, 28, 29, 30, 31, 32, 33, 34, 35, 36, 37], [0, 1, 2, 3], true⟩, ⟨[], false, [16, 17, 18, 19, 20, 21, 22, 23, 24, 25, 26, 27, 28, 29, 30, 31, 32, 33, 34, 35, 36, 37], [0, 1, 2, 3, 4], true⟩, ⟨[], false, [16, 17, 18, 19, 20, 21, 22, 23, 24, 25, 26, 27, 28, 29, 30, 31, 32, 33, 34, 35, 36, 37], [0, 1, 2, 3, 4, 5], true⟩, ⟨[5, 6], false, [16, 17, 18, 19, 20, 23, 24, 25, 26, 27, 28, 29, 30, 31, 32, 33, 34, 35, 36, 37], [0, 1, 2, 3, 4], true⟩, ⟨[], false, [16, 17, 18, 19, 20, 21, 22, 23, 25, 26, 27, 30, 31, 32, 33, 34, 35], [0, 1, 2, 3, 4, 5, 6, 7], false⟩, ⟨[], false, [16, 17, 18, 19, 20, 21, 22, 23, 24, 26, 30, 31, 32, 33, 34, 35], [0, 1, 2, 3, 4, 5, 6, 7, 8], false⟩, ⟨[], false, [16, 17, 18, 19, 20, 21, 22, 23, 24, 25, 30, 31, 32, 33, 34, 35], [0, 1, 2, 3, 4, 5, 6, 7, 8, 9], false⟩, ⟨[9, 10], false, [16, 17, 18, 19, 20, 21, 22, 23, 24, 30, 31, 32, 33, 34, 35], [0, 1, 2, 3, 4, 5, 6, 7, 8], false⟩, ⟨[8, 9, 10, 11], false, [16, 17, 18, 19, 20, 21, 22, 23, 30, 31, 32, 33, 34, 35], [0, 1, 2, 3, 4, 5, 6, 7], false⟩, ⟨[8, 9, 10, 11, 12], false, [16, 17, 18, 19, 20, 21, 22, 23, 30, 31, 32, 33, 34, 35], [0, 1, 2, 3, 4, 5, 6, 7], false⟩, ⟨[], false, [16, 17, 18, 19, 20, 21, 22, 23, 24, 25, 26, 27, 28, 29, 31, 32, 33], [0, 1, 2, 3, 4, 5, 6, 7, 8, 9, 10, 11, 12, 13], false⟩, ⟨[], false, [16, 17, 18, 19, 20, 21, 22, 23, 24, 25, 26, 27, 28, 29, 30, 32], [0, 1, 2, 3, 4, 5, 6, 7, 8, 9, 10, 11, 12, 13, 14], false⟩, ⟨[], false, [16, 17, 18, 19, 20, 21, 22, 23, 24, 25, 26, 27, 28, 29, 30, 31], [0, 1, 2, 3, 4, 5, 6, 7, 8, 9, 10, 11, 12, 13, 14, 15], false⟩, ⟨[15, 16], false, [16, 17, 18, 19, 20, 21, 22, 23, 24, 25, 26, 27, 28, 29, 30], [0, 1, 2, 3, 4, 5, 6, 7, 8, 9, 10, 11, 12, 13, 14], false⟩, ⟨[14, 15, 16, 17], false, [16, 17, 18, 19, 20, 21, 22, 23, 24, 25, 26, 27, 28, 29], [0, 1, 2, 3, 4, 5, 6, 7, 8, 9, 10, 11, 12, 13], false⟩, ⟨[14, 15, 16, 17, 18], false, [16, 17, 18, 19, 20, 21, 22, 23, 24, 25, 26, 27, 28, 29], [0, 1, 2, 3, 4, 5, 6, 7, 8, 9, 10, 11, 12, 13], false⟩, ⟨[0, 1, 2, 3, 8, 9, 10, 11, 12, 13, 14, 15, 16, 17, 18, 19], false, [20, 21, 22, 23], [4, 5, 6, 7], false⟩, ⟨[0, 1, 2, 3, 8, 9, 10, 11, 12, 13, 14, 15, 16, 17, 18, 19, 20], true, [20, 21, 22, 23], [], false⟩, ⟨[0, 1, 2, 3, 4, 5, 6, 7, 8, 9, 10, 11, 12, 13, 14, 15, 16, 17, 18, 19, 20, 21], true, [], [], false⟩, ⟨[0, 1, 2, 3, 4, 5, 6, 7, 8, 9, 10, 11, 12, 13, 14, 15, 16, 17, 18, 19, 20, 21, 22], true, [], [], false⟩] (by decide) ?_
    simp (maxSteps := 2000000) -implicitDefEqProofs only [zz, zE, evop, ev, ofVal, tget, tput, ok, V.isUndef, intBin, Ch.on, hget, hput, V.cells, D.cells, V.isAgg, V.one, V.clo, clos, loadD, Blk.width, splice, D.over, ↓reduceIte, reduceCtorEq, Nat.reduceLT, Nat.reduceEqDiff, Nat.reduceAdd, Nat.reduceLeDiff, nilTest, dW, hw1, hw2, hw3, List.getElem?_map, g1, g2, g3, Option.map_some, Int.natCast_nonneg, set_dW', g4]
    refine ⟨by omega, by omega, by omega, by omega, Weak.trimsM 1 (by simp) rfl (by simp [tget, V.lower, lowerL]) (by simp [Blk.lower])⟩
  · have h' : ¬ ((U.length : Int) < (U.length : Int)) := by omega
    simp (maxSteps := 2000000) -implicitDefEqProofs only [zz, evop, ev, tget, tput, ok, V.isUndef, intBin, Ch.on, told, resOf, resVs, ↓reduceIte, reduceCtorEq, Nat.reduceLT, Nat.reduceEqDiff, nilTest, h']
    have : Y.take U.length = Y := List.take_of_length_le (by omega)
    have e2 : Y.drop U.length = [] := List.drop_of_length_le (by omega)
    rw [this, e2, List.drop_length, List.take_length, List.append_nil, List.append_nil]
    exact Weak.sub (by simp [tget])


theorem r_swapRange (Pre U M Y Post : List (Int × Int)) (N a b n : Nat) (hN : (Pre ++ (U ++ (M ++ (Y ++ Post)))).length = N) (hN' : N ≤ 1000000) (ha : a = Pre.length) (hn : n = U.length) (hUY : n = Y.length) (hb : b = Pre.length + U.length + M.length) (f : Nat) :
    RSpec Tryz.prog 240 [.own 0 0 N, .d (.int .i64 a), .d (.int .i64 b), .d (.int .i64 n), .func (f, 0) []] [.dat false 2 ((Pre ++ (U ++ (M ++ (Y ++ Post)))).map dW)] (.tuple [])
      [.dat false 2 ((Pre ++ (Y ++ (M ++ (U ++ Post)))).map dW)] := by
  subst ha; subst hn
  exact r_swapRange_W Pre U M Y Post N hN hN' hUY b hb f

theorem r_rotate (Pre U Y Post : List (Int × Int)) (N a m b : Nat) (hN : (Pre ++ (U ++ (Y ++ Post))).length = N) (hN' : N ≤ 1000000) (ha : a = Pre.length) (hm : m = a + U.length) (hb : b = m + Y.length) (hU : 0 < U.length) (hY : 0 < Y.length) (f : Nat) :
    RSpec Tryz.prog 237 [.own 0 0 N, .d (.int .i64 a), .d (.int .i64 m), .d (.int .i64 b), .func (f, 0) []] [.dat false 2 ((Pre ++ (U ++ (Y ++ Post))).map dW)] (.tuple [])
      [.dat false 2 ((Pre ++ (Y ++ (U ++ Post))).map dW)] := by
  refine RSpec.of_awp envOf_ok hmix Tryz.func237 rfl (fun args w => Tryz.call237 args w) (by simp [Tryz.f237]) ?_
  simp only [Tryz.f237]
  simp (maxSteps := 2000000) -implicitDefEqProofs only [zz, evop, ev, tget, tput, ok, V.isUndef, intBin, Ch.on, ↓reduceIte, reduceCtorEq, Nat.reduceLT, Nat.reduceEqDiff, Nat.reduceAdd, nilTest, initV]
  simp only [List.length_append] at hN
  have hw1 : IntKind.i64.wrap ((m : Int) - (a : Int)) = (U.length : Int) := by rw [wrap_in (by omega)]; omega
  have hw2 : IntKind.i64.wrap ((b : Int) - (m : Int)) = (Y.length : Int) := by rw [wrap_in (by omega)]; omega
  simp only [hw1, hw2]
  obtain ⟨T, hT⟩ : ∃ T, T = Pre ++ (Y ++ (U ++ Post)) := ⟨_, rfl⟩
  have hTl : T.length = N := by rw [hT]; simp; omega
  refine wloop_ind (σ := List (Int × Int) × List (Int × Int) × List (Int × Int) × List (Int × Int)) (fun s => s.2.1.length + s.2.2.1.length) (fun s => [(10, .d (.int .i64 s.2.1.length)), (11, .d (.int .i64 s.2.2.1.length)), (0, .own 0 0 N), (2, .d (.int .i64 m)), (4, .func (f, 0) [])])
    (fun s => [.dat false 2 ((s.1 ++ (s.2.1 ++ (s.2.2.1 ++ s.2.2.2))).map dW)]) (fun s => s.1.length + s.2.1.length = m ∧ 0 < s.2.1.length ∧ 0 < s.2.2.1.length ∧ s.1 ++ (s.2.2.1 ++ (s.2.1 ++ s.2.2.2)) = T) (Pre, U, Y, Post) ⟨by simp only; omega, hU, hY, hT.symm⟩ (Weak.sub (by simp [tget])) ?_
  rintro ⟨Pre', U', Y', Post'⟩ ⟨h1, h2, h3, h4⟩
  simp only at h1 h2 h3 h4
  have hlen : Pre'.length + (U'.length + (Y'.length + Post'.length)) = N := by
    have := congrArg List.length h4; rw [hTl] at this; simp at this; omega
  have hwa : IntKind.i64.wrap ((m : Int) - (U'.length : Int)) = (Pre'.length : Int) := by rw [wrap_in (by omega)]; omega
  rcases Nat.lt_trichotomy U'.length Y'.length with hlt | heq | hgt
  · -- fewer on the left
    obtain ⟨Y1, Y2, rfl, hY2⟩ : ∃ Y1 Y2, Y' = Y1 ++ Y2 ∧ Y2.length = U'.length := ⟨Y'.take (Y'.length - U'.length), Y'.drop (Y'.length - U'.length), (List.take_append_drop _ _).symm, by simp; omega⟩
    rw [List.length_append] at hlt hlen h3
    have e1 : ((U'.length : Int) != ((Y1 ++ Y2).length : Int)) = true := by simp; omega
    have e3 : ¬ (((Y1 ++ Y2).length : Int) < (U'.length : Int)) := by simp; omega
    have hws : IntKind.i64.wrap ((m : Int) + ((Y1 ++ Y2).length : Int)) = ((m + (Y1 ++ Y2).length : Nat) : Int) := by rw [wrap_in (by simp; omega)]; omega
    have hwb : IntKind.i64.wrap (((m + (Y1 ++ Y2).length : Nat) : Int) - (U'.length : Int)) = ((m + Y1.length : Nat) : Int) := by rw [wrap_in (by simp; omega)]; simp; omega
    have hwc : IntKind.i64.wrap (((Y1 ++ Y2).length : Int) - (U'.length : Int)) = (Y1.length : Int) := by rw [wrap_in (by simp; omega)]; simp; omega
    rw [List.append_assoc Y1 Y2 Post']
    simp (maxSteps := 2000000) -implicitDefEqProofs only [zz, evop, ev, tget, tput, ok, V.isUndef, intBin, Ch.on, calleeOf, withArgs, told, ↓reduceIte, reduceCtorEq, Nat.reduceLT, Nat.reduceEqDiff, nilTest, e1, e3, hwa, hws, hwb]
    refine acall_ref [0] (r_swapRange Pre' U' Y1 Y2 Post' N Pre'.length (m + Y1.length) U'.length (by simp; omega) hN' rfl rfl hY2.symm (by omega) f) (by first | rfl | simp [renL, V.ren, frρ, renL_ds]) (by simp) rfl (by simp) (by simp) (by intro j hj; match j, hj with | 0, _ => exact ⟨by simp [hget], rfl⟩) ?_
    try simp (maxSteps := 2000000) -implicitDefEqProofs only [zz, evop, ev, tget, tput, ok, V.isUndef, intBin, Ch.on, hput, ↓reduceIte, Nat.reduceLT, Nat.reduceEqDiff, nilTest, Blk.ren, V.ren, renL, frameH, putL]
    simp (maxSteps := 2000000) -implicitDefEqProofs only [hwc]
    refine ⟨(Pre', Y2, Y1, U' ++ Post'), ⟨by simp only; omega, by simp only; omega, by simp only; omega, by simp only; rw [← h4]; simp⟩, by simp; omega, Weak.trimsM 1 (by simp) rfl (by simp [tget, V.lower, lowerL, hY2]) (by simp [Blk.lower])⟩
  · have e1 : ((U'.length : Int) != (Y'.length : Int)) = false := by simp; omega
    simp (maxSteps := 2000000) -implicitDefEqProofs only [zz, evop, ev, tget, tput, ok, V.isUndef, intBin, Ch.on, calleeOf, withArgs, told, ↓reduceIte, reduceCtorEq, Nat.reduceLT, Nat.reduceEqDiff, nilTest, e1, hwa]
    refine acall_ref [0] (r_swapRange Pre' U' [] Y' Post' N Pre'.length m U'.length (by simp; omega) hN' rfl rfl heq (by simp; omega) f) (by first | rfl | simp [renL, V.ren, frρ, renL_ds]) (by simp) rfl (by simp) (by simp) (by intro j hj; match j, hj with | 0, _ => exact ⟨by simp [hget], rfl⟩) ?_
    try simp (maxSteps := 2000000) -implicitDefEqProofs only [zz, tput, hput, resOf, resVs, ↓reduceIte, Nat.reduceLT, Blk.ren, V.ren, renL, frameH, putL]
    rw [h4, hT]
    exact Weak.trimsM 1 (by simp) rfl (by simp [tget, V.lower, lowerL]) (by simp [Blk.lower])
  · obtain ⟨U1, U2, rfl, hU1⟩ : ∃ U1 U2, U' = U1 ++ U2 ∧ U1.length = Y'.length := ⟨U'.take Y'.length, U'.drop Y'.length, (List.take_append_drop _ _).symm, by simp; omega⟩
    rw [List.length_append] at hgt hlen h2 h1
    have e1 : (((U1 ++ U2).length : Int) != (Y'.length : Int)) = true := by simp; omega
    have e3 : ((Y'.length : Int) < ((U1 ++ U2).length : Int)) := by simp; omega
    have hwc : IntKind.i64.wrap (((U1 ++ U2).length : Int) - (Y'.length : Int)) = (U2.length : Int) := by rw [wrap_in (by simp; omega)]; simp; omega
    rw [List.append_assoc U1 U2]
    simp (maxSteps := 2000000) -implicitDefEqProofs only [zz, evop, ev, tget, tput, ok, V.isUndef, intBin, Ch.on, calleeOf, withArgs, told, ↓reduceIte, reduceCtorEq, Nat.reduceLT, Nat.reduceEqDiff, nilTest, e1, e3, hwa]
    refine acall_ref [0] (r_swapRange Pre' U1 U2 Y' Post' N Pre'.length m Y'.length (by simp; omega) hN' rfl hU1.symm rfl (by omega) f) (by first | rfl | simp [renL, V.ren, frρ, renL_ds]) (by simp) rfl (by simp) (by simp) (by intro j hj; match j, hj with | 0, _ => exact ⟨by simp [hget], rfl⟩) ?_
    try simp (maxSteps := 2000000) -implicitDefEqProofs only [zz, evop, ev, tget, tput, ok, V.isUndef, intBin, Ch.on, hput, ↓reduceIte, Nat.reduceLT, Nat.reduceEqDiff, nilTest, Blk.ren, V.ren, renL, frameH, putL]
    simp (maxSteps := 2000000) -implicitDefEqProofs only [hwc]
    have e9 : Pre' ++ (Y' ++ (U2 ++ (U1 ++ Post'))) = (Pre' ++ Y') ++ (U2 ++ (U1 ++ Post')) := by simp
    rw [e9]
    refine ⟨(Pre' ++ Y', U2, U1, Post'), ⟨by simp; omega, by simp only; omega, by simp only; omega, by simp only; rw [← h4]; simp⟩, by simp; omega, Weak.trimsM 1 (by simp) rfl (by simp [tget, V.lower, lowerL, hU1]) (by simp [Blk.lower])⟩

end Go.Proofs.YtjhfpabldidlgaaGreat.AM

/- Merges of sorted lists; a stable sort's result is one list. -/
set_option linter.all false
namespace Go.Proofs.YtjhfpabldidlgaaGreat.AM
open Go

section
variable {α : Type} {lt : α → α → Bool}

def mg (lt : α → α → Bool) (A B : List α) : List α := List.merge A B (fun x y => !lt y x)
theorem mg_nil (B : List α) : mg lt [] B = B := by simp [mg, List.merge]
theorem mg_nil' (A : List α) : mg lt A [] = A := by cases A <;> simp [mg, List.merge]
theorem mg_cons (a : α) (A : List α) (b : α) (B : List α) : mg lt (a :: A) (b :: B) = if lt b a = false then a :: mg lt A (b :: B) else b :: mg lt (a :: A) B := by
  simp only [mg]
  rw [List.merge]
  cases lt b a <;> simp
theorem mg_len : ∀ (A B : List α), (mg lt A B).length = A.length + B.length
  | [], B => by rw [mg_nil]; simp
  | a :: A, [] => by rw [mg_nil']; simp
  | a :: A, b :: B => by
    rw [mg_cons]
    split
    · simp [mg_len A (b :: B)]; omega
    · simp [mg_len (a :: A) B]; omega

theorem mg_split : ∀ (A1 B1 : List α) {A2 B2 : List α}, (∀ x ∈ A1, ∀ y ∈ B2, lt y x = false) → (∀ y ∈ B1, ∀ x ∈ A2, lt y x = true) → mg lt (A1 ++ A2) (B1 ++ B2) = mg lt A1 B1 ++ mg lt A2 B2
  | [], [], A2, B2, _, _ => by simp [mg_nil]
  | [], b :: B1, A2, B2, h1, h2 => by
    have ih := mg_split [] B1 (A2 := A2) (B2 := B2) (by simp) (fun y hy => h2 y (by simp [hy]))
    rw [mg_nil, List.nil_append] at *
    cases A2 with
    | nil => rw [mg_nil, mg_nil]
    | cons x A2 =>
      rw [List.cons_append, mg_cons, if_neg (by rw [h2 b (by simp) x (by simp)]; simp), ih]; rfl
  | a :: A1, [], A2, B2, h1, h2 => by
    have ih := mg_split A1 [] (A2 := A2) (B2 := B2) (fun x hx => h1 x (by simp [hx])) (by simp)
    rw [mg_nil', List.nil_append] at *
    cases B2 with
    | nil => rw [mg_nil', mg_nil']
    | cons y B2 =>
      rw [List.cons_append, mg_cons, if_pos (h1 a (by simp) y (by simp)), ih]; rfl
  | a :: A1, b :: B1, A2, B2, h1, h2 => by
    rw [List.cons_append, List.cons_append, mg_cons, mg_cons]
    split
    · have := mg_split A1 (b :: B1) (A2 := A2) (B2 := B2) (fun x hx => h1 x (by simp [hx])) h2
      rw [← List.cons_append, this]; rfl
    · have := mg_split (a :: A1) B1 (A2 := A2) (B2 := B2) h1 (fun y hy => h2 y (by simp [hy]))
      rw [← List.cons_append, this]; rfl

theorem mg_one {x : α} {B1 B2 : List α} (h1 : ∀ y ∈ B1, lt y x = true) (h2 : ∀ y ∈ B2, lt y x = false) : mg lt [x] (B1 ++ B2) = B1 ++ x :: B2 := by
  have := mg_split [] B1 (A2 := [x]) (B2 := B2) (lt := lt) (by simp) (fun y hy z hz => by simp at hz; subst hz; exact h1 y hy)
  rw [List.nil_append, mg_nil] at this
  rw [this]
  have := mg_split [x] [] (A2 := []) (B2 := B2) (lt := lt) (fun z hz y hy => by simp at hz; subst hz; exact h2 y hy) (by simp)
  rw [List.append_nil, List.nil_append, mg_nil', mg_nil] at this
  rw [this]; rfl

theorem mg_one' {y : α} {A1 A2 : List α} (h1 : ∀ x ∈ A1, lt y x = false) (h2 : ∀ x ∈ A2, lt y x = true) : mg lt (A1 ++ A2) [y] = A1 ++ y :: A2 := by
  have := mg_split A1 [] (A2 := A2) (B2 := [y]) (lt := lt) (fun x hx z hz => by simp at hz; subst hz; exact h1 x hx) (by simp)
  rw [List.nil_append, mg_nil'] at this
  rw [this]
  have := mg_split [] [y] (A2 := A2) (B2 := []) (lt := lt) (by simp) (fun z hz x hx => by simp at hz; subst hz; exact h2 x hx)
  rw [List.append_nil, List.nil_append, mg_nil', mg_nil] at this
  rw [this]; rfl

/-- No later one is less than an earlier one. -/
def Srt (lt : α → α → Bool) (l : List α) : Prop := ∀ (i j : Nat) (x y : α), i < j → l[i]? = some x → l[j]? = some y → lt y x = false

theorem Srt.take {l : List α} (h : Srt lt l) (n : Nat) : Srt lt (l.take n) := fun i j x y hij hx hy => by
  rw [List.getElem?_take] at hx hy
  split at hx
  · split at hy
    · exact h i j x y hij hx hy
    · cases hy
  · cases hx
theorem Srt.drop {l : List α} (h : Srt lt l) (n : Nat) : Srt lt (l.drop n) := fun i j x y hij hx hy => by
  rw [List.getElem?_drop] at hx hy
  exact h (n + i) (n + j) x y (by omega) hx hy

/-- What the search for the cut has found. A's first i, B's first j; i + j is fixed. -/
theorem cut_ok (hnt : ∀ x y z, lt x y = false → lt y z = false → lt x z = false) (hir : ∀ x, lt x x = false) {A B : List α} (hA : Srt lt A) (hB : Srt lt B) {i j : Nat}
    (hi : i ≤ A.length) (hj : j ≤ B.length) (h1 : 0 < i → j < B.length → ∀ x y, A[i - 1]? = some x → B[j]? = some y → lt y x = false)
    (h2 : i < A.length → 0 < j → ∀ x y, A[i]? = some x → B[j - 1]? = some y → lt y x = true) :
    (∀ x ∈ A.take i, ∀ y ∈ B.drop j, lt y x = false) ∧ (∀ y ∈ B.take j, ∀ x ∈ A.drop i, lt y x = true) := by
  have le' : ∀ {l : List α}, Srt lt l → ∀ {p q : Nat} {x y : α}, p ≤ q → l[p]? = some x → l[q]? = some y → lt y x = false := by
    intro l hl p q x y hpq hx hy
    rcases Nat.lt_or_ge p q with h | h
    · exact hl p q x y h hx hy
    · obtain rfl : p = q := by omega
      rw [hx] at hy; cases hy; exact hir x
  constructor
  · intro x hx y hy
    obtain ⟨p, hp⟩ := List.getElem?_of_mem hx
    obtain ⟨q, hq⟩ := List.getElem?_of_mem hy
    rw [List.getElem?_take] at hp
    rw [List.getElem?_drop] at hq
    split at hp
    · rename_i hpi
      have hjl : j + q < B.length := (List.getElem?_eq_some_iff.1 hq).1
      have hpl : p < A.length := (List.getElem?_eq_some_iff.1 hp).1
      have e1 : A[i - 1]? = some (A[i - 1]'(by omega)) := List.getElem?_eq_getElem (by omega)
      have e2 : B[j]? = some (B[j]'(by omega)) := List.getElem?_eq_getElem (by omega)
      have := h1 (by omega) (by omega) _ _ e1 e2
      exact hnt _ _ _ (hnt _ _ _ (le' hB (by omega) e2 hq) this) (le' hA (by omega) hp e1)
    · cases hp
  · intro y hy x hx
    obtain ⟨p, hp⟩ := List.getElem?_of_mem hx
    obtain ⟨q, hq⟩ := List.getElem?_of_mem hy
    rw [List.getElem?_drop] at hp
    rw [List.getElem?_take] at hq
    split at hq
    · have hil : i + p < A.length := (List.getElem?_eq_some_iff.1 hp).1
      have hql : q < B.length := (List.getElem?_eq_some_iff.1 hq).1
      have e1 : A[i]? = some (A[i]'(by omega)) := List.getElem?_eq_getElem (by omega)
      have e2 : B[j - 1]? = some (B[j - 1]'(by omega)) := List.getElem?_eq_getElem (by omega)
      have := h2 (by omega) (by omega) _ _ e1 e2
      cases h : lt y x with
      | true => rfl
      | false =>
        have h3 := hnt _ _ _ (hnt _ _ _ (le' hB (by omega) hq e2) h) (le' hA (by omega) e1 hp)
        rw [h3] at this; cases this
    · cases hq

end
end Go.Proofs.YtjhfpabldidlgaaGreat.AM

/- symMerge. -/
set_option linter.all false
set_option maxRecDepth 100000
set_option maxHeartbeats 4000000
namespace Go.Proofs.YtjhfpabldidlgaaGreat.AM
open Go Go.RowKit

theorem half_u (x : Nat) (h : x ≤ 4000000) : IntKind.i64.wrap (IntKind.u64.wrap (x : Int) / 2 ^ 1) = ((x / 2 : Nat) : Int) := by
  have h1 : IntKind.u64.wrap (x : Int) = (x : Int) := by rw [IntKind.wrap_u64]; omega
  rw [h1]
  have h2 : ((2 : Int) ^ 1) = 2 := rfl
  rw [h2, wrap_in (by omega)]; omega

theorem low_of {c : Int × Int → Int × Int → Int} (hnt : ∀ x y z, decide (c x y < 0) = false → decide (c y z < 0) = false → decide (c x z < 0) = false) {B : List (Int × Int)} (hS : Srt (fun x y => decide (c x y < 0)) B) {k h : Nat} {x y z : Int × Int} (hk : k ≤ h) (hz : B[k]? = some z) (hy : B[h]? = some y) (hcy : c y x < 0) : c z x < 0 := by
  rcases Nat.lt_or_ge k h with hlt | hge
  · have h1 := hS k h z y hlt hz hy
    cases hd : decide (c z x < 0) with
    | true => simpa using hd
    | false => have := hnt y z x h1 hd; simp at this; omega
  · obtain rfl : k = h := by omega
    rw [hz] at hy; cases hy; exact hcy
theorem high_of {c : Int × Int → Int × Int → Int} (hnt : ∀ x y z, decide (c x y < 0) = false → decide (c y z < 0) = false → decide (c x z < 0) = false) {B : List (Int × Int)} (hS : Srt (fun x y => decide (c x y < 0)) B) {k h : Nat} {x y z : Int × Int} (hk : h ≤ k) (hz : B[k]? = some z) (hy : B[h]? = some y) (hcy : ¬ c y x < 0) : ¬ c z x < 0 := by
  rcases Nat.lt_or_ge h k with hlt | hge
  · have h1 := hS h k y z hlt hy hz
    have := hnt z y x h1 (by simpa using hcy)
    simpa using this
  · obtain rfl : k = h := by omega
    rw [hz] at hy; cases hy; exact hcy

section
variable (c : Int × Int → Int × Int → Int) (f : Nat) (hc : ∀ x y, CSpec Tryz.prog f [dW x, dW y] (.int .i64 (c x y)))
include hc

/-- One on the left. -/
theorem r_sym_left (x : Int × Int) (Pre B Post : List (Int × Int)) (N a m b : Nat) (hN : (Pre ++ (x :: (B ++ Post))).length = N) (hN' : N ≤ 1000000) (ha : a = Pre.length) (hm : m = a + 1) (hb : b = m + B.length) (hB : 0 < B.length)
    (hnt : ∀ x y z, decide (c x y < 0) = false → decide (c y z < 0) = false → decide (c x z < 0) = false) (hS : Srt (fun x y => decide (c x y < 0)) B) :
    RSpec Tryz.prog 220 [.own 0 0 N, .d (.int .i64 a), .d (.int .i64 m), .d (.int .i64 b), .func (f, 0) []] [.dat false 2 ((Pre ++ (x :: (B ++ Post))).map dW)] (.tuple [])
      [.dat false 2 ((Pre ++ (mg (fun x y => decide (c x y < 0)) [x] B ++ Post)).map dW)] := by
  refine RSpec.of_awp envOf_ok hmix Tryz.func220 rfl (fun args w => Tryz.call220 args w) (by simp [Tryz.f220]) ?_
  simp only [Tryz.f220]
  simp (maxSteps := 2000000) -implicitDefEqProofs only [zz, zE, evop, ev, ofVal, tget, tput, ok, V.isUndef, intBin, Ch.on, told, ↓reduceIte, reduceCtorEq, Nat.reduceLT, Nat.reduceEqDiff, Nat.reduceAdd, Int.reduceToNat, nilTest, initV]
  simp only [List.length_append, List.length_cons] at hN
  have hw1 : IntKind.i64.wrap ((m : Int) - (a : Int)) = 1 := by rw [wrap_in (by omega)]; omega
  have e1 : ((1 : Int) == 1) = true := rfl
  simp (maxSteps := 2000000) -implicitDefEqProofs only [zz, ↓reduceIte, hw1]
  refine wloop_ind (σ := Nat × Nat) (fun s => s.2 - s.1) (fun s => [(10, .d (.int .i64 ((m + s.1 : Nat) : Int))), (11, .d (.int .i64 ((m + s.2 : Nat) : Int))), (0, .own 0 0 N), (1, .d (.int .i64 a)), (4, .func (f, 0) [])])
    (fun s => [.dat false 2 ((Pre ++ (x :: (B ++ Post))).map dW)]) (fun s => s.1 ≤ s.2 ∧ s.2 ≤ B.length ∧ (∀ k y, k < s.1 → B[k]? = some y → c y x < 0) ∧ (∀ k y, s.2 ≤ k → B[k]? = some y → ¬ c y x < 0)) (0, B.length) ⟨Nat.zero_le _, Nat.le_refl _, fun k y hk => by simp at hk, fun k y hk hy => by have := (List.getElem?_eq_some_iff.1 hy).1; simp at hk; omega⟩ (Weak.sub (by simp [tget]; omega)) ?_
  rintro ⟨i, j⟩ ⟨hij, hj, hlo, hhi⟩
  simp only at hij hj hlo hhi
  rcases Nat.lt_or_ge i j with hlt | hge
  · have h' : (((m + i : Nat) : Int) < ((m + j : Nat) : Int)) := by omega
    have hws : IntKind.i64.wrap (((m + i : Nat) : Int) + ((m + j : Nat) : Int)) = ((m + i + (m + j) : Nat) : Int) := by rw [wrap_in (by omega)]; omega
    have hwh := half_u (m + i + (m + j)) (by omega)
    obtain ⟨h, hh, hh1, hh2⟩ : ∃ h, (m + i + (m + j)) / 2 = m + h ∧ i ≤ h ∧ h < j := ⟨(m + i + (m + j)) / 2 - m, by omega, by omega, by omega⟩
    rw [hh] at hwh
    have hy : B[h]? = some (B[h]'(by omega)) := List.getElem?_eq_getElem (by omega)
    obtain ⟨y, hy'⟩ : ∃ y, y = B[h]'(by omega) := ⟨_, rfl⟩
    rw [← hy'] at hy
    have gh : (Pre ++ (x :: (B ++ Post)))[m + h]? = some y := by
      rw [List.getElem?_append_right (by omega)]
      have : m + h - Pre.length = h + 1 := by omega
      rw [this, List.getElem?_cons_succ, List.getElem?_append_left (by omega), hy]
    have ga : (Pre ++ (x :: (B ++ Post)))[a]? = some x := by
      rw [List.getElem?_append_right (by omega)]
      have : a - Pre.length = 0 := by omega
      rw [this]; rfl
    have hwi : IntKind.i64.wrap (((m + h : Nat) : Int) + 1) = ((m + (h + 1) : Nat) : Int) := by rw [wrap_in (by omega)]; omega
    simp (maxSteps := 2000000) -implicitDefEqProofs only [zz, zE, evop, ev, ofVal, tget, tput, ok, V.isUndef, intBin, Ch.on, told, ↓reduceIte, Nat.reduceLT, Nat.reduceEqDiff, Int.reduceToNat, nilTest, h', hws, hwh]
    refine ⟨⟨by decide, by decide⟩, ?_⟩
    refine wdraw_plan [⟨[], false, [41, 42, 43, 44, 45, 46, 47, 48], [], false⟩, ⟨[], false, [40, 42, 45, 46, 47, 48], [0], false⟩, ⟨[], false, [40, 41, 45, 46, 47, 48], [0, 1], false⟩, ⟨[1, 2], false, [40, 45, 46, 47, 48], [0], false⟩, ⟨[1, 2, 3], false, [40, 45, 46, 47, 48], [0], false⟩, ⟨[], false, [40, 41, 42, 43, 44, 46], [0, 1, 2, 3, 4], false⟩, ⟨[], false, [40, 41, 42, 43, 44, 45], [0, 1, 2, 3, 4, 5], false⟩, ⟨[5, 6], false, [40, 41, 42, 43, 44], [0, 1, 2, 3, 4], false⟩, ⟨[5, 6, 7], false, [40, 41, 42, 43, 44], [0, 1, 2, 3, 4], false⟩, ⟨[0, 1, 2, 3, 4, 5, 6, 7, 8], true, [], [], false⟩, ⟨[0, 1, 2, 3, 4, 5, 6, 7, 8, 9], true, [], [], false⟩] (by decide) ?_
    simp (maxSteps := 2000000) -implicitDefEqProofs only [zz, zE, evop, ev, ofVal, tget, tput, ok, V.isUndef, calleeOf, withArgs, hget, hput, D.cells, loadD, Blk.width, ↓reduceIte, reduceCtorEq, Nat.reduceLT, Nat.reduceEqDiff, Nat.reduceAdd, Nat.reduceLeDiff, dW, List.getElem?_map, gh, ga, Option.map_some, Int.natCast_nonneg]
    refine ⟨by omega, by omega, ?_⟩
    refine acall_flat (ds := [dW y, dW x]) (by simp only [xports, xport, dW]) (hc y x) rfl ?_
    simp (maxSteps := 2000000) -implicitDefEqProofs only [zz, evop, ev, ofVal, tget, tput, ok, V.isUndef, intBin, Ch.on, told, ↓reduceIte, Nat.reduceLT, Nat.reduceEqDiff, Nat.reduceAdd, nilTest, hwi]
    by_cases hcy : c y x < 0
    · simp (maxSteps := 2000000) -implicitDefEqProofs only [zz, ↓reduceIte, hcy]
      refine ⟨(h + 1, j), ⟨by simp only; omega, hj, fun k z hk hz => low_of hnt hS (h := h) (by simp only at hk; omega) hz hy hcy, hhi⟩, by simp only; omega, Weak.trimsM 1 (by simp) rfl (by simp [tget, V.lower, lowerL]) (by simp [Blk.lower])⟩
    · simp (maxSteps := 2000000) -implicitDefEqProofs only [zz, ↓reduceIte, hcy]
      refine ⟨(i, h), ⟨hh1, by simp only; omega, hlo, fun k z hk hz => high_of hnt hS (h := h) hk hz hy hcy⟩, by simp only; omega, Weak.trimsM 1 (by simp) rfl (by simp [tget, V.lower, lowerL]) (by simp [Blk.lower])⟩
  · obtain rfl : i = j := by omega
    have h' : ¬ (((m + i : Nat) : Int) < ((m + i : Nat) : Int)) := by omega
    simp (maxSteps := 2000000) -implicitDefEqProofs only [zz, evop, ev, tget, tput, ok, V.isUndef, intBin, Ch.on, told, ↓reduceIte, reduceCtorEq, Nat.reduceLT, Nat.reduceEqDiff, nilTest, h']
    have hwp : IntKind.i64.wrap (((m + i : Nat) : Int) - 1) = ((a + i : Nat) : Int) := by rw [wrap_in (by omega)]; omega
    refine wloop_count i (fun p => [(13, .d (.int .i64 ((a + p : Nat) : Int))), (10, .d (.int .i64 ((m + i : Nat) : Int))), (0, .own 0 0 N)])
      (fun p => [.dat false 2 ((Pre ++ (B.take p ++ x :: (B.drop p ++ Post))).map dW)]) (fun p => True) trivial ?_ (fun p hp _ => ?_) (fun _ => ?_)
    · exact Weak.sub (by simp [tget])
    · have h' : (((a + p : Nat) : Int) < ((a + i : Nat) : Int)) := by omega
      have hwn : IntKind.i64.wrap (((a + p : Nat) : Int) + 1) = ((a + (p + 1) : Nat) : Int) := by rw [wrap_in (by omega)]; omega
      obtain ⟨y, hy'⟩ : ∃ y, y = B[p]'(by omega) := ⟨_, rfl⟩
      have hL : Pre ++ (B.take p ++ x :: (B.drop p ++ Post)) = (Pre ++ B.take p) ++ x :: ([] ++ y :: (B.drop (p + 1) ++ Post)) := by
        rw [List.drop_eq_getElem_cons (by omega), ← hy']; simp
      have hL2 : Pre ++ (B.take (p + 1) ++ x :: (B.drop (p + 1) ++ Post)) = (Pre ++ B.take p) ++ y :: ([] ++ x :: (B.drop (p + 1) ++ Post)) := by
        rw [List.take_add_one, List.getElem?_eq_getElem (by omega), ← hy']; simp
      obtain ⟨g1, g2, g3, g4⟩ := two_get (A := Pre ++ B.take p) (B := []) (C := B.drop (p + 1) ++ Post) (u := x) (v := y) (i := a + p) (j := a + (p + 1)) (by simp; omega) (by simp; omega)
      rw [hL, hL2]
      simp (maxSteps := 2000000) -implicitDefEqProofs only [zz, evop, ev, ofVal, tget, tput, ok, V.isUndef, intBin, Ch.on, told, ↓reduceIte, Nat.reduceLT, Nat.reduceEqDiff, nilTest, hwp, h']
      refine wdraw_plan [⟨[], false, [62, 63, 64, 65, 66, 67, 68, 69, 70, 71, 72, 73, 74], [], false⟩, ⟨[], false, [61, 63, 64, 65, 66, 67, 68, 69, 70, 71, 72, 73, 74], [0], false⟩, ⟨[], false, [61, 62, 63, 64, 65, 66, 67, 68, 69, 70, 71, 72, 73, 74, 75, 76], [0, 1], true⟩, ⟨[], false, [61, 62, 63, 64, 65, 66, 67, 68, 69, 70, 71, 72, 73, 74, 75, 76], [0, 1, 2], true⟩, ⟨[3], false, [61, 62, 63, 65, 66, 67, 68, 69, 70, 71, 72, 73, 74, 75, 76], [0, 1, 2], true⟩, ⟨[], false, [61, 62, 63, 64, 65, 67, 68, 71, 72, 73, 74], [0, 1, 2, 3, 4], false⟩, ⟨[], false, [61, 62, 63, 64, 65, 66, 71, 72, 73, 74], [0, 1, 2, 3, 4, 5], false⟩, ⟨[6], false, [61, 62, 63, 64, 65, 66, 71, 72, 73, 74], [0, 1, 2, 3, 4, 5], false⟩, ⟨[5, 6, 7], false, [61, 62, 63, 64, 65, 71, 72, 73, 74], [0, 1, 2, 3, 4], false⟩, ⟨[5, 6, 7, 8], false, [61, 62, 63, 64, 65, 71, 72, 73, 74], [0, 1, 2, 3, 4], false⟩, ⟨[], false, [61, 62, 63, 64, 65, 66, 67, 68, 69, 70, 72], [0, 1, 2, 3, 4, 5, 6, 7, 8, 9], false⟩, ⟨[], false, [61, 62, 63, 64, 65, 66, 67, 68, 69, 70, 71], [0, 1, 2, 3, 4, 5, 6, 7, 8, 9, 10], false⟩, ⟨[10, 11], false, [61, 62, 63, 64, 65, 66, 67, 68, 69, 70], [0, 1, 2, 3, 4, 5, 6, 7, 8, 9], false⟩, ⟨[10, 11, 12], false, [61, 62, 63, 64, 65, 66, 67, 68, 69, 70], [0, 1, 2, 3, 4, 5, 6, 7, 8, 9], false⟩, ⟨[0, 1, 5, 6, 7, 8, 9, 10, 11, 12, 13], false, [63, 64, 65], [2, 3, 4], false⟩, ⟨[0, 1, 5, 6, 7, 8, 9, 10, 11, 12, 13, 14], true, [63, 64, 65], [], false⟩, ⟨[0, 1, 2, 3, 4, 5, 6, 7, 8, 9, 10, 11, 12, 13, 14, 15], true, [], [], false⟩, ⟨[0, 1, 2, 3, 4, 5, 6, 7, 8, 9, 10, 11, 12, 13, 14, 15, 16], true, [], [], false⟩] (by decide) ?_
      rw [List.nil_append] at g1 g2 g3 g4
      rw [List.nil_append] at g4
      simp (maxSteps := 2000000) -implicitDefEqProofs only [zz, zE, evop, ev, ofVal, tget, tput, ok, V.isUndef, intBin, Ch.on, hget, hput, V.cells, D.cells, V.isAgg, V.one, V.clo, clos, loadD, Blk.width, splice, D.over, ↓reduceIte, reduceCtorEq, Nat.reduceLT, Nat.reduceEqDiff, Nat.reduceAdd, Nat.reduceLeDiff, nilTest, dW, hwn, List.getElem?_map, g1, g2, g3, Option.map_some, Int.natCast_nonneg, set_dW', g4]
      refine ⟨by omega, by omega, by omega, by omega, Weak.trimsM 1 (by simp) rfl (by simp [tget, V.lower, lowerL]) (by simp [Blk.lower])⟩
    · have h' : ¬ (((a + i : Nat) : Int) < ((a + i : Nat) : Int)) := by omega
      simp (maxSteps := 2000000) -implicitDefEqProofs only [zz, evop, ev, ofVal, tget, tput, ok, V.isUndef, intBin, Ch.on, told, resOf, resVs, ↓reduceIte, Nat.reduceLT, Nat.reduceEqDiff, nilTest, hwp, h']
      have e : mg (fun x y => decide (c x y < 0)) [x] B = B.take i ++ x :: B.drop i := by
        conv => lhs; rw [← List.take_append_drop i B]
        refine mg_one (fun y hy => ?_) (fun y hy => ?_)
        · obtain ⟨k, hk⟩ := List.getElem?_of_mem hy
          rw [List.getElem?_take] at hk
          split at hk
          · rename_i hki; simpa using hlo k y hki hk
          · cases hk
        · obtain ⟨k, hk⟩ := List.getElem?_of_mem hy
          rw [List.getElem?_drop] at hk
          simpa using hhi (i + k) y (by omega) hk
      rw [e, List.append_assoc, List.cons_append]
      exact Weak.trimsM 1 (by simp) rfl (by simp [tget, V.lower, lowerL]) (by simp [Blk.lower])

/-- One on the right. -/
theorem r_sym_right (y : Int × Int) (Pre A Post : List (Int × Int)) (N a m b : Nat) (hN : (Pre ++ (A ++ (y :: Post))).length = N) (hN' : N ≤ 1000000) (ha : a = Pre.length) (hm : m = a + A.length) (hb : b = m + 1) (hA : 1 < A.length)
    (hnt : ∀ x y z, decide (c x y < 0) = false → decide (c y z < 0) = false → decide (c x z < 0) = false) (hS : Srt (fun x y => decide (c x y < 0)) A) :
    RSpec Tryz.prog 220 [.own 0 0 N, .d (.int .i64 a), .d (.int .i64 m), .d (.int .i64 b), .func (f, 0) []] [.dat false 2 ((Pre ++ (A ++ (y :: Post))).map dW)] (.tuple [])
      [.dat false 2 ((Pre ++ (mg (fun x y => decide (c x y < 0)) A [y] ++ Post)).map dW)] := by
  refine RSpec.of_awp envOf_ok hmix Tryz.func220 rfl (fun args w => Tryz.call220 args w) (by simp [Tryz.f220]) ?_
  simp only [Tryz.f220]
  simp (maxSteps := 2000000) -implicitDefEqProofs only [zz, zE, evop, ev, ofVal, tget, tput, ok, V.isUndef, intBin, Ch.on, told, ↓reduceIte, reduceCtorEq, Nat.reduceLT, Nat.reduceEqDiff, Nat.reduceAdd, Int.reduceToNat, nilTest, initV]
  simp only [List.length_append, List.length_cons] at hN
  have hw1 : IntKind.i64.wrap ((m : Int) - (a : Int)) = (A.length : Int) := by rw [wrap_in (by omega)]; omega
  have hw2 : IntKind.i64.wrap ((b : Int) - (m : Int)) = 1 := by rw [wrap_in (by omega)]; omega
  have e0 : ((A.length : Int) == 1) = false := by rw [beq_eq_false_iff_ne]; omega
  have e1 : ((1 : Int) == 1) = true := rfl
  simp (maxSteps := 2000000) -implicitDefEqProofs only [zz, ↓reduceIte, hw1, hw2, e0]
  refine wloop_ind (σ := Nat × Nat) (fun s => s.2 - s.1) (fun s => [(14, .d (.int .i64 ((a + s.1 : Nat) : Int))), (15, .d (.int .i64 ((a + s.2 : Nat) : Int))), (0, .own 0 0 N), (2, .d (.int .i64 m)), (4, .func (f, 0) [])])
    (fun s => [.dat false 2 ((Pre ++ (A ++ (y :: Post))).map dW)]) (fun s => s.1 ≤ s.2 ∧ s.2 ≤ A.length ∧ (∀ k x, k < s.1 → A[k]? = some x → ¬ c y x < 0) ∧ (∀ k x, s.2 ≤ k → A[k]? = some x → c y x < 0)) (0, A.length) ⟨Nat.zero_le _, Nat.le_refl _, fun k y hk => by simp at hk, fun k y hk hy => by have := (List.getElem?_eq_some_iff.1 hy).1; simp at hk; omega⟩ (Weak.sub (by simp [tget]; omega)) ?_
  rintro ⟨i, j⟩ ⟨hij, hj, hlo, hhi⟩
  simp only at hij hj hlo hhi
  rcases Nat.lt_or_ge i j with hlt | hge
  · have h' : (((a + i : Nat) : Int) < ((a + j : Nat) : Int)) := by omega
    have hws : IntKind.i64.wrap (((a + i : Nat) : Int) + ((a + j : Nat) : Int)) = ((a + i + (a + j) : Nat) : Int) := by rw [wrap_in (by omega)]; omega
    have hwh := half_u (a + i + (a + j)) (by omega)
    obtain ⟨h, hh, hh1, hh2⟩ : ∃ h, (a + i + (a + j)) / 2 = a + h ∧ i ≤ h ∧ h < j := ⟨(a + i + (a + j)) / 2 - a, by omega, by omega, by omega⟩
    rw [hh] at hwh
    have hx : A[h]? = some (A[h]'(by omega)) := List.getElem?_eq_getElem (by omega)
    obtain ⟨x, hx'⟩ : ∃ x, x = A[h]'(by omega) := ⟨_, rfl⟩
    rw [← hx'] at hx
    have gh : (Pre ++ (A ++ (y :: Post)))[a + h]? = some x := by
      rw [List.getElem?_append_right (by omega)]
      have : a + h - Pre.length = h := by omega
      rw [this, List.getElem?_append_left (by omega), hx]
    have gm : (Pre ++ (A ++ (y :: Post)))[m]? = some y := by
      rw [List.getElem?_append_right (by omega), List.getElem?_append_right (by omega)]
      have : m - Pre.length - A.length = 0 := by omega
      rw [this]; rfl
    have hwi : IntKind.i64.wrap (((a + h : Nat) : Int) + 1) = ((a + (h + 1) : Nat) : Int) := by rw [wrap_in (by omega)]; omega
    simp (maxSteps := 2000000) -implicitDefEqProofs only [zz, zE, evop, ev, ofVal, tget, tput, ok, V.isUndef, intBin, Ch.on, told, ↓reduceIte, Nat.reduceLT, Nat.reduceEqDiff, Int.reduceToNat, nilTest, h', hws, hwh]
    refine ⟨⟨by decide, by decide⟩, ?_⟩
    refine wdraw_plan [⟨[], false, [93, 94, 95, 96, 97, 98, 99, 100], [], false⟩, ⟨[], false, [92, 94, 97, 98, 99, 100], [0], false⟩, ⟨[], false, [92, 93, 97, 98, 99, 100], [0, 1], false⟩, ⟨[1, 2], false, [92, 97, 98, 99, 100], [0], false⟩, ⟨[1, 2, 3], false, [92, 97, 98, 99, 100], [0], false⟩, ⟨[], false, [92, 93, 94, 95, 96, 98], [0, 1, 2, 3, 4], false⟩, ⟨[], false, [92, 93, 94, 95, 96, 97], [0, 1, 2, 3, 4, 5], false⟩, ⟨[5, 6], false, [92, 93, 94, 95, 96], [0, 1, 2, 3, 4], false⟩, ⟨[5, 6, 7], false, [92, 93, 94, 95, 96], [0, 1, 2, 3, 4], false⟩, ⟨[0, 1, 2, 3, 4, 5, 6, 7, 8], true, [], [], false⟩, ⟨[0, 1, 2, 3, 4, 5, 6, 7, 8, 9], true, [], [], false⟩, ⟨[0, 1, 2, 3, 4, 5, 6, 7, 8, 9, 10], true, [], [], false⟩] (by decide) ?_
    simp (maxSteps := 2000000) -implicitDefEqProofs only [zz, zE, evop, ev, ofVal, tget, tput, ok, V.isUndef, calleeOf, withArgs, hget, hput, D.cells, loadD, Blk.width, ↓reduceIte, reduceCtorEq, Nat.reduceLT, Nat.reduceEqDiff, Nat.reduceAdd, Nat.reduceLeDiff, dW, List.getElem?_map, gh, gm, Option.map_some, Int.natCast_nonneg]
    refine ⟨by omega, by omega, ?_⟩
    refine acall_flat (ds := [dW y, dW x]) (by simp only [xports, xport, dW]) (hc y x) rfl ?_
    simp (maxSteps := 2000000) -implicitDefEqProofs only [zz, evop, ev, ofVal, tget, tput, ok, V.isUndef, intBin, Ch.on, told, ↓reduceIte, Nat.reduceLT, Nat.reduceEqDiff, Nat.reduceAdd, nilTest, hwi]
    by_cases hcy : c y x < 0
    · simp (maxSteps := 2000000) -implicitDefEqProofs only [zz, ↓reduceIte, hcy]
      refine ⟨(i, h), ⟨hh1, by simp only; omega, hlo, fun k z hk hz => ?_⟩, by simp only; omega, Weak.trimsM 1 (by simp) rfl (by simp [tget, V.lower, lowerL]) (by simp [Blk.lower])⟩
      rcases Nat.lt_or_ge h k with hlt' | hge'
      · have h1 := hS h k x z hlt' hx hz
        cases hd : decide (c y z < 0) with
        | true => simpa using hd
        | false => have := hnt y z x hd h1; simp at this; omega
      · simp only at hk
        obtain rfl : k = h := by omega
        rw [hx] at hz; cases hz; exact hcy
    · simp (maxSteps := 2000000) -implicitDefEqProofs only [zz, ↓reduceIte, hcy]
      refine ⟨(h + 1, j), ⟨by simp only; omega, hj, fun k z hk hz => ?_, hhi⟩, by simp only; omega, Weak.trimsM 1 (by simp) rfl (by simp [tget, V.lower, lowerL]) (by simp [Blk.lower])⟩
      rcases Nat.lt_or_ge k h with hlt' | hge'
      · have h1 := hS k h z x hlt' hz hx
        have := hnt y x z (by simpa using hcy) h1
        simpa using this
      · simp only at hk
        obtain rfl : k = h := by omega
        rw [hx] at hz; cases hz; exact hcy
  · obtain rfl : i = j := by omega
    have h' : ¬ (((a + i : Nat) : Int) < ((a + i : Nat) : Int)) := by omega
    simp (maxSteps := 2000000) -implicitDefEqProofs only [zz, evop, ev, tget, tput, ok, V.isUndef, intBin, Ch.on, told, ↓reduceIte, reduceCtorEq, Nat.reduceLT, Nat.reduceEqDiff, nilTest, h']
    refine wloop_count (A.length - i) (fun p => [(17, .d (.int .i64 ((m - p : Nat) : Int))), (14, .d (.int .i64 ((a + i : Nat) : Int))), (0, .own 0 0 N)])
      (fun p => [.dat false 2 ((Pre ++ (A.take (A.length - p) ++ y :: (A.drop (A.length - p) ++ Post))).map dW)]) (fun p => True) trivial ?_ (fun p hp _ => ?_) (fun _ => ?_)
    · simp only [Nat.sub_zero, List.take_length, List.drop_length, List.nil_append]
      exact Weak.sub (by simp [tget])
    · have h' : (((a + i : Nat) : Int) < ((m - p : Nat) : Int)) := by omega
      have hwn : IntKind.i64.wrap (((m - p : Nat) : Int) - 1) = ((m - (p + 1) : Nat) : Int) := by rw [wrap_in (by omega)]; omega
      obtain ⟨q, hq⟩ : ∃ q, A.length - p = q + 1 := ⟨A.length - p - 1, by omega⟩
      have hq2 : A.length - (p + 1) = q := by omega
      obtain ⟨x, hx'⟩ : ∃ x, x = A[q]'(by omega) := ⟨_, rfl⟩
      have hL : Pre ++ (A.take (A.length - p) ++ y :: (A.drop (A.length - p) ++ Post)) = (Pre ++ A.take q) ++ x :: ([] ++ y :: (A.drop (q + 1) ++ Post)) := by
        rw [hq, List.take_add_one, List.getElem?_eq_getElem (by omega), ← hx']; simp
      have hL2 : Pre ++ (A.take (A.length - (p + 1)) ++ y :: (A.drop (A.length - (p + 1)) ++ Post)) = (Pre ++ A.take q) ++ y :: ([] ++ x :: (A.drop (q + 1) ++ Post)) := by
        rw [hq2, List.drop_eq_getElem_cons (by omega), ← hx']; simp
      obtain ⟨g1, g2, g3, g4⟩ := two_get (A := Pre ++ A.take q) (B := []) (C := A.drop (q + 1) ++ Post) (u := x) (v := y) (i := m - (p + 1)) (j := m - p) (by simp; omega) (by simp; omega)
      rw [hL, hL2]
      rw [List.nil_append] at g1 g2 g3 g4
      rw [List.nil_append] at g4
      have g5 : (((Pre ++ A.take q) ++ x :: (y :: (A.drop (q + 1) ++ Post))).set (m - p) x)[m - (p + 1)]? = some x := by rw [List.getElem?_set_ne (by omega)]; exact g1
      rw [List.set_comm _ _ (by omega)] at g4
      simp (maxSteps := 2000000) -implicitDefEqProofs only [zz, evop, ev, tget, tput, ok, V.isUndef, intBin, Ch.on, told, ↓reduceIte, Nat.reduceLT, Nat.reduceEqDiff, nilTest, h']
      refine wdraw_plan [⟨[], false, [114, 115, 116, 117, 118, 119, 120, 121, 122, 123, 124, 125, 126], [], false⟩, ⟨[], false, [113, 115, 116, 117, 118, 119, 120, 121, 122, 123, 124, 125, 126], [0], false⟩, ⟨[], false, [113, 114, 115, 116, 117, 118, 119, 120, 121, 122, 123, 124, 125, 126, 127, 128], [0, 1], true⟩, ⟨[], false, [113, 114, 115, 116, 117, 118, 119, 120, 121, 122, 123, 124, 125, 126, 127, 128], [0, 1, 2], true⟩, ⟨[3], false, [113, 114, 115, 117, 118, 119, 120, 121, 122, 123, 124, 125, 126, 127, 128], [0, 1, 2], true⟩, ⟨[], false, [113, 114, 115, 116, 117, 119, 120, 123, 124, 125, 126], [0, 1, 2, 3, 4], false⟩, ⟨[], false, [113, 114, 115, 116, 117, 118, 123, 124, 125, 126], [0, 1, 2, 3, 4, 5], false⟩, ⟨[6], false, [113, 114, 115, 116, 117, 118, 123, 124, 125, 126], [0, 1, 2, 3, 4, 5], false⟩, ⟨[5, 6, 7], false, [113, 114, 115, 116, 117, 123, 124, 125, 126], [0, 1, 2, 3, 4], false⟩, ⟨[5, 6, 7, 8], false, [113, 114, 115, 116, 117, 123, 124, 125, 126], [0, 1, 2, 3, 4], false⟩, ⟨[], false, [113, 114, 115, 116, 117, 118, 119, 120, 121, 122, 124], [0, 1, 2, 3, 4, 5, 6, 7, 8, 9], false⟩, ⟨[], false, [113, 114, 115, 116, 117, 118, 119, 120, 121, 122, 123], [0, 1, 2, 3, 4, 5, 6, 7, 8, 9, 10], false⟩, ⟨[10, 11], false, [113, 114, 115, 116, 117, 118, 119, 120, 121, 122], [0, 1, 2, 3, 4, 5, 6, 7, 8, 9], false⟩, ⟨[10, 11, 12], false, [113, 114, 115, 116, 117, 118, 119, 120, 121, 122], [0, 1, 2, 3, 4, 5, 6, 7, 8, 9], false⟩, ⟨[0, 1, 5, 6, 7, 8, 9, 10, 11, 12, 13], false, [115, 116, 117], [2, 3, 4], false⟩, ⟨[0, 1, 5, 6, 7, 8, 9, 10, 11, 12, 13, 14], true, [115, 116, 117], [], false⟩, ⟨[0, 1, 2, 3, 4, 5, 6, 7, 8, 9, 10, 11, 12, 13, 14, 15], true, [], [], false⟩, ⟨[0, 1, 2, 3, 4, 5, 6, 7, 8, 9, 10, 11, 12, 13, 14, 15, 16], true, [], [], false⟩] (by decide) ?_
      simp (maxSteps := 2000000) -implicitDefEqProofs only [zz, zE, evop, ev, ofVal, tget, tput, ok, V.isUndef, intBin, Ch.on, hget, hput, V.cells, D.cells, V.isAgg, V.one, V.clo, clos, loadD, Blk.width, splice, D.over, ↓reduceIte, reduceCtorEq, Nat.reduceLT, Nat.reduceEqDiff, Nat.reduceAdd, Nat.reduceLeDiff, nilTest, dW, hwn, List.getElem?_map, g1, g2, g5, Option.map_some, Int.natCast_nonneg, set_dW', g4]
      refine ⟨by omega, by omega, by omega, by omega, Weak.trimsM 1 (by simp) rfl (by simp [tget, V.lower, lowerL]) (by simp [Blk.lower])⟩
    · have em : m - (A.length - i) = a + i := by omega
      have h' : ¬ (((a + i : Nat) : Int) < ((m - (A.length - i) : Nat) : Int)) := by omega
      simp (maxSteps := 2000000) -implicitDefEqProofs only [zz, evop, ev, tget, tput, ok, V.isUndef, intBin, Ch.on, told, resOf, resVs, ↓reduceIte, Nat.reduceLT, Nat.reduceEqDiff, nilTest, h']
      have ei : A.length - (A.length - i) = i := by omega
      have e : mg (fun x y => decide (c x y < 0)) A [y] = A.take i ++ y :: A.drop i := by
        conv => lhs; rw [← List.take_append_drop i A]
        refine mg_one' (fun x hx => ?_) (fun x hx => ?_)
        · obtain ⟨k, hk⟩ := List.getElem?_of_mem hx
          rw [List.getElem?_take] at hk
          split at hk
          · rename_i hki; simpa using hlo k x hki hk
          · cases hk
        · obtain ⟨k, hk⟩ := List.getElem?_of_mem hx
          rw [List.getElem?_drop] at hk
          simpa using hhi (i + k) x (by omega) hk
      rw [e, ei, List.append_assoc, List.cons_append]
      exact Weak.trimsM 1 (by simp) rfl (by simp [tget, V.lower, lowerL]) (by simp [Blk.lower])
end

end Go.Proofs.YtjhfpabldidlgaaGreat.AM

/- symMerge, whole: from its end to its beginning. -/
set_option linter.all false
set_option maxRecDepth 100000
set_option maxHeartbeats 4000000
namespace Go.Proofs.YtjhfpabldidlgaaGreat.AM
open Go Go.RowKit

theorem up_of {c : Int × Int → Int × Int → Int} (hnt : ∀ x y z, decide (c x y < 0) = false → decide (c y z < 0) = false → decide (c x z < 0) = false) {A : List (Int × Int)} (hS : Srt (fun x y => decide (c x y < 0)) A) {i j : Nat} {x y z : Int × Int} (hk : i ≤ j) (hx : A[i]? = some x) (hz : A[j]? = some z) (hcy : c y x < 0) : c y z < 0 := by
  rcases Nat.lt_or_ge i j with hlt | hge
  · have h1 := hS i j x z hlt hx hz
    cases hd : decide (c y z < 0) with
    | true => simpa using hd
    | false => have := hnt y z x hd h1; simp at this; omega
  · obtain rfl : i = j := by omega
    rw [hx] at hz; cases hz; exact hcy
theorem dn_of {c : Int × Int → Int × Int → Int} (hnt : ∀ x y z, decide (c x y < 0) = false → decide (c y z < 0) = false → decide (c x z < 0) = false) {A : List (Int × Int)} (hS : Srt (fun x y => decide (c x y < 0)) A) {i j : Nat} {x y z : Int × Int} (hk : j ≤ i) (hx : A[i]? = some x) (hz : A[j]? = some z) (hcy : ¬ c y x < 0) : ¬ c y z < 0 := by
  rcases Nat.lt_or_ge j i with hlt | hge
  · have h1 := hS j i z x hlt hz hx
    have := hnt y x z (by simpa using hcy) h1
    simpa using this
  · obtain rfl : i = j := by omega
    rw [hx] at hz; cases hz; exact hcy


noncomputable def symC : Code := Tryz.f220.body.getD .skip
abbrev lts (c : Int × Int → Int × Int → Int) (x y : Int × Int) : Bool := decide (c x y < 0)
abbrev symR (f N a m b : Nat) (L L' : List (Int × Int)) : Prop := RSpec Tryz.prog 220 [.own 0 0 N, .d (.int .i64 a), .d (.int .i64 m), .d (.int .i64 b), .func (f, 0) []] [.dat false 2 (L.map dW)] (.tuple []) [.dat false 2 (L'.map dW)]

theorem sym43 (lt : Int × Int → Int × Int → Bool) (f : Nat) (P2 A2 B2 Post : List (Int × Int)) (N mid e b : Nat) (he : e = mid + A2.length) (hb : b = e + B2.length)
    (ih : 0 < A2.length → 0 < B2.length → symR f N mid e b (P2 ++ (A2 ++ (B2 ++ Post))) (P2 ++ (mg lt A2 B2 ++ Post))) :
    Snd Tryz.prog (envOf Tryz.prog) 220 1 (tlN 11 symC) [(18, .d (.int .i64 mid)), (24, .d (.int .i64 e)), (3, .d (.int .i64 b)), (0, .own 0 0 N), (4, .func (f, 0) [])] [.dat false 2 ((P2 ++ (A2 ++ (B2 ++ Post))).map dW)]
      (FinR (envOf Tryz.prog) 1 [] (.tuple []) [.dat false 2 ((P2 ++ (mg lt A2 B2 ++ Post)).map dW)]) := by
  refine Snd.of_awp envOf_ok hmix ?_
  simp only [symC, Tryz.f220, Option.getD_some, tlN]
  by_cases q5 : ((mid : Int) < (e : Int))
  · by_cases q6 : ((e : Int) < (b : Int))
    · simp (maxSteps := 2000000) -implicitDefEqProofs only [zz, evop, ev, tget, tput, ok, V.isUndef, intBin, guardOf, Ch.on, calleeOf, withArgs, told, ↓reduceIte, reduceCtorEq, Nat.reduceLT, Nat.reduceEqDiff, nilTest, q5, q6]
      refine acall_ref [0] (ih (by omega) (by omega)) (by first | rfl | simp [renL, V.ren, frρ, renL_ds]) (by simp) rfl (by simp) (by simp) (by intro j hj; match j, hj with | 0, _ => exact ⟨by simp [hget], rfl⟩) ?_
      try simp (maxSteps := 2000000) -implicitDefEqProofs only [zz, tput, hput, resOf, resVs, ↓reduceIte, Nat.reduceLT, Blk.ren, V.ren, renL, frameH, putL]
      exact Weak.trimsM 1 (by simp) rfl (by simp [tget, V.lower, lowerL]) (by simp [Blk.lower])
    · have eB : B2 = [] := List.length_eq_zero_iff.1 (by omega)
      subst eB
      rw [mg_nil', List.nil_append]
      simp (maxSteps := 2000000) -implicitDefEqProofs only [zz, evop, ev, tget, tput, ok, V.isUndef, intBin, guardOf, Ch.on, told, resOf, resVs, ↓reduceIte, Nat.reduceLT, Nat.reduceEqDiff, nilTest, q5, q6]
      exact Weak.trimsM 1 (by simp) rfl (by simp [tget, V.lower, lowerL]) (by simp [Blk.lower])
  · have eA : A2 = [] := List.length_eq_zero_iff.1 (by omega)
    subst eA
    rw [mg_nil, List.nil_append]
    simp (maxSteps := 2000000) -implicitDefEqProofs only [zz, evop, ev, ofVal, tget, tput, ok, V.isUndef, intBin, guardOf, Ch.on, told, resOf, resVs, ↓reduceIte, Nat.reduceLT, Nat.reduceEqDiff, nilTest, q5]
    exact Weak.trimsM 1 (by simp) rfl (by simp [tget, V.lower, lowerL]) (by simp [Blk.lower])


theorem sym41 (lt : Int × Int → Int × Int → Bool) (f : Nat) (Pre A1 B1 A2 B2 Post : List (Int × Int)) (N a s mid e b : Nat) (hs : s = a + A1.length) (hm : mid = s + B1.length) (he : e = mid + A2.length) (hb : b = e + B2.length)
    (ih1 : 0 < A1.length → 0 < B1.length → symR f N a s mid (Pre ++ (A1 ++ (B1 ++ (A2 ++ (B2 ++ Post))))) (Pre ++ (mg lt A1 B1 ++ (A2 ++ (B2 ++ Post)))))
    (ih2 : 0 < A2.length → 0 < B2.length → symR f N mid e b ((Pre ++ mg lt A1 B1) ++ (A2 ++ (B2 ++ Post))) ((Pre ++ mg lt A1 B1) ++ (mg lt A2 B2 ++ Post))) :
    Snd Tryz.prog (envOf Tryz.prog) 220 1 (tlN 10 symC) [(1, .d (.int .i64 a)), (20, .d (.int .i64 s)), (18, .d (.int .i64 mid)), (24, .d (.int .i64 e)), (3, .d (.int .i64 b)), (0, .own 0 0 N), (4, .func (f, 0) [])] [.dat false 2 ((Pre ++ (A1 ++ (B1 ++ (A2 ++ (B2 ++ Post))))).map dW)]
      (FinR (envOf Tryz.prog) 1 [] (.tuple []) [.dat false 2 (((Pre ++ mg lt A1 B1) ++ (mg lt A2 B2 ++ Post)).map dW)]) := by
  have tail := sym43 lt f (Pre ++ mg lt A1 B1) A2 B2 Post N mid e b he hb ih2
  simp only [symC, Tryz.f220, Option.getD_some, tlN] at tail ⊢
  refine Snd.upto envOf_ok hmix 1 _ ?_
  simp only [hdN, tlN]
  by_cases q3 : ((a : Int) < (s : Int))
  · by_cases q4 : ((s : Int) < (mid : Int))
    · simp (maxSteps := 2000000) -implicitDefEqProofs only [zz, evop, ev, tget, tput, ok, V.isUndef, intBin, guardOf, Ch.on, calleeOf, withArgs, told, ↓reduceIte, reduceCtorEq, Nat.reduceLT, Nat.reduceEqDiff, nilTest, q3, q4]
      refine acall_ref [0] (ih1 (by omega) (by omega)) (by first | rfl | simp [renL, V.ren, frρ, renL_ds]) (by simp) rfl (by simp) (by simp) (by intro j hj; match j, hj with | 0, _ => exact ⟨by simp [hget], rfl⟩) ?_
      try simp (maxSteps := 2000000) -implicitDefEqProofs only [zz, tput, hput, ↓reduceIte, Nat.reduceLT, Blk.ren, V.ren, renL, frameH, putL, cutK_normal]
      rw [← List.append_assoc Pre (mg lt A1 B1)]
      exact Snd.weak (Weak.trimsM 1 (by simp) rfl (by simp [tget, V.lower, lowerL]) (by simp [Blk.lower])) tail
    · have eB : B1 = [] := List.length_eq_zero_iff.1 (by omega)
      subst eB
      rw [mg_nil'] at tail ⊢
      simp (maxSteps := 2000000) -implicitDefEqProofs only [zz, evop, ev, tget, tput, ok, V.isUndef, intBin, guardOf, Ch.on, told, ↓reduceIte, Nat.reduceLT, Nat.reduceEqDiff, nilTest, cutK_normal, q3, q4]
      rw [← List.append_assoc Pre A1]
      exact Snd.weak (Weak.trimsM 1 (by simp) rfl (by simp [tget, V.lower, lowerL]) (by simp [Blk.lower])) tail
  · have eA : A1 = [] := List.length_eq_zero_iff.1 (by omega)
    subst eA
    rw [mg_nil] at tail ⊢
    simp (maxSteps := 2000000) -implicitDefEqProofs only [zz, evop, ev, ofVal, tget, tput, ok, V.isUndef, intBin, guardOf, Ch.on, told, ↓reduceIte, Nat.reduceLT, Nat.reduceEqDiff, nilTest, cutK_normal, q3]
    rw [← List.append_assoc Pre]
    exact Snd.weak (Weak.trimsM 1 (by simp) rfl (by simp [tget, V.lower, lowerL]) (by simp [Blk.lower])) tail

theorem sym39 (lt : Int × Int → Int × Int → Bool) (f : Nat) (Pre A1 B1 A2 B2 Post : List (Int × Int)) (N a s m mid e b : Nat) (hN : (Pre ++ (A1 ++ (A2 ++ (B1 ++ (B2 ++ Post))))).length = N) (hN' : N ≤ 1000000) (ha : a = Pre.length) (hs : s = a + A1.length) (hmm : m = s + A2.length) (hem : e = m + B1.length) (hm : mid = s + B1.length) (he : e = mid + A2.length) (hb : b = e + B2.length)
    (ih1 : 0 < A1.length → 0 < B1.length → symR f N a s mid (Pre ++ (A1 ++ (B1 ++ (A2 ++ (B2 ++ Post))))) (Pre ++ (mg lt A1 B1 ++ (A2 ++ (B2 ++ Post)))))
    (ih2 : 0 < A2.length → 0 < B2.length → symR f N mid e b ((Pre ++ mg lt A1 B1) ++ (A2 ++ (B2 ++ Post))) ((Pre ++ mg lt A1 B1) ++ (mg lt A2 B2 ++ Post))) :
    Snd Tryz.prog (envOf Tryz.prog) 220 1 (tlN 9 symC) [(1, .d (.int .i64 a)), (20, .d (.int .i64 s)), (2, .d (.int .i64 m)), (18, .d (.int .i64 mid)), (24, .d (.int .i64 e)), (3, .d (.int .i64 b)), (0, .own 0 0 N), (4, .func (f, 0) [])] [.dat false 2 (((Pre ++ A1) ++ (A2 ++ (B1 ++ (B2 ++ Post)))).map dW)]
      (FinR (envOf Tryz.prog) 1 [] (.tuple []) [.dat false 2 (((Pre ++ mg lt A1 B1) ++ (mg lt A2 B2 ++ Post)).map dW)]) := by
  have tail := sym41 lt f Pre A1 B1 A2 B2 Post N a s mid e b hs hm he hb ih1 ih2
  simp only [symC, Tryz.f220, Option.getD_some, tlN] at tail ⊢
  refine Snd.upto envOf_ok hmix 1 _ ?_
  simp only [hdN, tlN]
  simp only [List.length_append] at hN
  by_cases q1 : ((s : Int) < (m : Int))
  · by_cases q2 : ((m : Int) < (e : Int))
    · simp (maxSteps := 2000000) -implicitDefEqProofs only [zz, evop, ev, tget, tput, ok, V.isUndef, intBin, guardOf, Ch.on, calleeOf, withArgs, told, ↓reduceIte, reduceCtorEq, Nat.reduceLT, Nat.reduceEqDiff, nilTest, q1, q2]
      refine acall_ref [0] (r_rotate (Pre ++ A1) A2 B1 (B2 ++ Post) N s m e (by simp; omega) hN' (by simp; omega) (by omega) (by omega) (by omega) (by omega) f) (by first | rfl | simp [renL, V.ren, frρ, renL_ds]) (by simp) rfl (by simp) (by simp) (by intro j hj; match j, hj with | 0, _ => exact ⟨by simp [hget], rfl⟩) ?_
      try simp (maxSteps := 2000000) -implicitDefEqProofs only [zz, tput, hput, ↓reduceIte, Nat.reduceLT, Blk.ren, V.ren, renL, frameH, putL, cutK_normal]
      rw [List.append_assoc Pre A1]
      exact Snd.weak (Weak.trimsM 1 (by simp) rfl (by simp [tget, V.lower, lowerL]) (by simp [Blk.lower])) tail
    · have eB : B1 = [] := List.length_eq_zero_iff.1 (by omega)
      subst eB
      simp (maxSteps := 2000000) -implicitDefEqProofs only [zz, evop, ev, tget, tput, ok, V.isUndef, intBin, guardOf, Ch.on, told, ↓reduceIte, Nat.reduceLT, Nat.reduceEqDiff, nilTest, cutK_normal, q1, q2]
      rw [List.append_assoc Pre A1]
      simp only [List.nil_append] at tail ⊢
      exact Snd.weak (Weak.trimsM 1 (by simp) rfl (by simp [tget, V.lower, lowerL]) (by simp [Blk.lower])) tail
  · have eA : A2 = [] := List.length_eq_zero_iff.1 (by omega)
    subst eA
    simp (maxSteps := 2000000) -implicitDefEqProofs only [zz, evop, ev, ofVal, tget, tput, ok, V.isUndef, intBin, guardOf, Ch.on, told, ↓reduceIte, Nat.reduceLT, Nat.reduceEqDiff, nilTest, cutK_normal, q1]
    rw [List.append_assoc Pre A1]
    simp only [List.nil_append] at tail ⊢
    exact Snd.weak (Weak.trimsM 1 (by simp) rfl (by simp [tget, V.lower, lowerL]) (by simp [Blk.lower])) tail


theorem sym32 (c : Int × Int → Int × Int → Int) (f : Nat) (hc : ∀ x y, CSpec Tryz.prog f [dW x, dW y] (.int .i64 (c x y))) (hnt : ∀ x y z, lts c x y = false → lts c y z = false → lts c x z = false) (hir : ∀ x, lts c x x = false)
    (Pre A B Post : List (Int × Int)) (N a m mid b s0 r0 k : Nat) (hk : A.length + B.length ≤ k + 1) (hN : (Pre ++ (A ++ (B ++ Post))).length = N) (hN' : N ≤ 1000000) (ha : a = Pre.length) (hm : m = a + A.length) (hb : b = m + B.length) (hA1 : 1 < A.length) (hB1 : 1 < B.length) (hmid : (a + b) / 2 = mid) (hSA : Srt (lts c) A) (hSB : Srt (lts c) B)
    (hsr : (mid < m ∧ s0 = mid + m - b ∧ r0 = mid) ∨ (m ≤ mid ∧ s0 = a ∧ r0 = m))
    (ih : ∀ (Pre A B Post : List (Int × Int)) (N a m b : Nat), A.length + B.length ≤ k → (Pre ++ (A ++ (B ++ Post))).length = N → N ≤ 1000000 → a = Pre.length → m = a + A.length → b = m + B.length → 0 < A.length → 0 < B.length → Srt (lts c) A → Srt (lts c) B → symR f N a m b (Pre ++ (A ++ (B ++ Post))) (Pre ++ (mg (lts c) A B ++ Post))) :
    Snd Tryz.prog (envOf Tryz.prog) 220 1 (tlN 6 symC) [(20, .d (.int .i64 s0)), (21, .d (.int .i64 r0)), (19, .d (.int .i64 ((mid + m : Nat) : Int))), (1, .d (.int .i64 a)), (2, .d (.int .i64 m)), (18, .d (.int .i64 mid)), (3, .d (.int .i64 b)), (0, .own 0 0 N), (4, .func (f, 0) [])] [.dat false 2 ((Pre ++ (A ++ (B ++ Post))).map dW)]
      (FinR (envOf Tryz.prog) 1 [] (.tuple []) [.dat false 2 ((Pre ++ (mg (lts c) A B ++ Post)).map dW)]) := by
  have tail := fun (A1 B1 A2 B2 : List (Int × Int)) (s e : Nat) h1 h2 h3 h4 h5 h6 h7 h8 h9 => sym39 (lts c) f Pre A1 B1 A2 B2 Post N a s m mid e b h1 hN' ha h2 h3 h4 h5 h6 h7 h8 h9
  simp only [symC, Tryz.f220, Option.getD_some, tlN] at tail ⊢
  have hN0 := hN
  simp only [List.length_append] at hN
  have hwp : IntKind.i64.wrap (((mid + m : Nat) : Int) - 1) = ((mid + m - 1 : Nat) : Int) := by rw [wrap_in (by omega)]; omega
  refine Snd.upto envOf_ok hmix 3 _ ?_
  simp only [hdN, tlN]
  simp (maxSteps := 2000000) -implicitDefEqProofs only [zz, evop, ev, ofVal, tget, tput, ok, V.isUndef, intBin, Ch.on, ↓reduceIte, Nat.reduceLT, Nat.reduceEqDiff, nilTest, hwp]
  refine wloop_ind (σ := Nat × Nat) (fun s => s.2 - s.1) (fun s => [(20, .d (.int .i64 ((s.1 : Nat) : Int))), (21, .d (.int .i64 ((s.2 : Nat) : Int))), (22, .d (.int .i64 ((mid + m - 1 : Nat) : Int))), (19, .d (.int .i64 ((mid + m : Nat) : Int))), (18, .d (.int .i64 (mid : Int))), (0, .own 0 0 N), (1, .d (.int .i64 a)), (2, .d (.int .i64 m)), (3, .d (.int .i64 b)), (4, .func (f, 0) [])])
    (fun s => [.dat false 2 ((Pre ++ (A ++ (B ++ Post))).map dW)]) (fun s => s0 ≤ s.1 ∧ s.1 ≤ s.2 ∧ s.2 ≤ r0 ∧ (∀ k x y, s0 ≤ k → k < s.1 → A[k - a]? = some x → B[mid - 1 - k]? = some y → ¬ c y x < 0) ∧ (∀ k x y, s.2 ≤ k → k < r0 → A[k - a]? = some x → B[mid - 1 - k]? = some y → c y x < 0))
    (s0, r0) ⟨Nat.le_refl _, by simp only; omega, Nat.le_refl _, fun k x y h1 h2 => by simp only at h2; omega, fun k x y h1 h2 => by simp only at h1; omega⟩ (Weak.sub (by simp [tget] <;> omega)) ?_
  rintro ⟨s, r⟩ ⟨hs1, hs2, hs3, hlo, hhi⟩
  simp only at hs1 hs2 hs3 hlo hhi
  rcases Nat.lt_or_ge s r with hsr' | hsr'
  · have h' : (((s : Nat) : Int) < ((r : Nat) : Int)) := by omega
    have hws : IntKind.i64.wrap (((s : Nat) : Int) + ((r : Nat) : Int)) = ((s + r : Nat) : Int) := by rw [wrap_in (by omega)]; omega
    have hwh := half_u (s + r) (by omega)
    obtain ⟨h, hh, hh1, hh2⟩ : ∃ h, (s + r) / 2 = h ∧ s ≤ h ∧ h < r := ⟨(s + r) / 2, rfl, by omega, by omega⟩
    rw [hh] at hwh
    have hwq : IntKind.i64.wrap (((mid + m - 1 : Nat) : Int) - (h : Int)) = ((mid + m - 1 - h : Nat) : Int) := by rw [wrap_in (by omega)]; omega
    have hwi : IntKind.i64.wrap ((h : Int) + 1) = ((h + 1 : Nat) : Int) := by rw [wrap_in (by omega)]; omega
    have hx : A[h - a]? = some (A[h - a]'(by omega)) := List.getElem?_eq_getElem (by omega)
    have hy : B[mid - 1 - h]? = some (B[mid - 1 - h]'(by omega)) := List.getElem?_eq_getElem (by omega)
    obtain ⟨x, hx'⟩ : ∃ x, x = A[h - a]'(by omega) := ⟨_, rfl⟩
    obtain ⟨y, hy'⟩ : ∃ y, y = B[mid - 1 - h]'(by omega) := ⟨_, rfl⟩
    rw [← hx'] at hx
    rw [← hy'] at hy
    have gA : (Pre ++ (A ++ (B ++ Post)))[h]? = some x := by
      rw [List.getElem?_append_right (by omega), List.getElem?_append_left (by omega), ← hx]; congr 1; omega
    have gB : (Pre ++ (A ++ (B ++ Post)))[mid + m - 1 - h]? = some y := by
      rw [List.getElem?_append_right (by omega), List.getElem?_append_right (by omega), List.getElem?_append_left (by omega), ← hy]; congr 1; omega
    clear tail ih
    simp (maxSteps := 2000000) -implicitDefEqProofs only [zz, zE, evop, ev, ofVal, tget, tput, ok, V.isUndef, intBin, Ch.on, told, ↓reduceIte, Nat.reduceLT, Nat.reduceEqDiff, Int.reduceToNat, nilTest, h', hws, hwh]
    refine ⟨⟨by decide, by decide⟩, ?_⟩
    refine wdraw_plan [⟨[], false, [159, 160, 161, 162, 163, 164, 165, 166, 167, 168], [], false⟩, ⟨[], false, [158, 160, 161, 162, 165, 166, 167, 168], [0], false⟩, ⟨[], false, [158, 159, 161, 165, 166, 167, 168], [0, 1], false⟩, ⟨[], false, [158, 159, 160, 165, 166, 167, 168], [0, 1, 2], false⟩, ⟨[2, 3], false, [158, 159, 165, 166, 167, 168], [0, 1], false⟩, ⟨[1, 2, 3, 4], false, [158, 165, 166, 167, 168], [0], false⟩, ⟨[1, 2, 3, 4, 5], false, [158, 165, 166, 167, 168], [0], false⟩, ⟨[], false, [158, 159, 160, 161, 162, 163, 164, 166], [0, 1, 2, 3, 4, 5, 6], false⟩, ⟨[], false, [158, 159, 160, 161, 162, 163, 164, 165], [0, 1, 2, 3, 4, 5, 6, 7], false⟩, ⟨[7, 8], false, [158, 159, 160, 161, 162, 163, 164], [0, 1, 2, 3, 4, 5, 6], false⟩, ⟨[7, 8, 9], false, [158, 159, 160, 161, 162, 163, 164], [0, 1, 2, 3, 4, 5, 6], false⟩, ⟨[0, 1, 2, 3, 4, 5, 6, 7, 8, 9, 10], true, [], [], false⟩, ⟨[0, 1, 2, 3, 4, 5, 6, 7, 8, 9, 10, 11], true, [], [], false⟩, ⟨[0, 1, 2, 3, 4, 5, 6, 7, 8, 9, 10, 11, 12], true, [], [], false⟩] (by decide) ?_
    simp (maxSteps := 2000000) -implicitDefEqProofs only [zz, zE, evop, ev, ofVal, tget, tput, ok, V.isUndef, intBin, calleeOf, withArgs, hget, hput, V.cells, D.cells, V.isAgg, loadD, Blk.width, ↓reduceIte, reduceCtorEq, Nat.reduceLT, Nat.reduceEqDiff, Nat.reduceAdd, Nat.reduceLeDiff, dW, hwq, List.getElem?_map, gA, gB, Option.map_some, Int.natCast_nonneg]
    refine ⟨by omega, by omega, ?_⟩
    refine acall_flat (ds := [dW y, dW x]) (by simp only [xports, xport, dW]) (hc y x) rfl ?_
    simp (maxSteps := 2000000) -implicitDefEqProofs only [zz, evop, ev, ofVal, tget, tput, ok, V.isUndef, intBin, Ch.on, told, ↓reduceIte, Nat.reduceLT, Nat.reduceEqDiff, Nat.reduceAdd, nilTest, hwi]
    by_cases hcy : c y x < 0
    · simp (maxSteps := 2000000) -implicitDefEqProofs only [zz, ↓reduceIte, hcy]
      refine ⟨(s, h), ⟨hs1, by simp only; omega, by simp only; omega, hlo, fun k' x' y' h1 h2 hx2 hy2 => ?_⟩, by simp only; omega, Weak.trimsM 1 (by simp) rfl (by simp [tget, V.lower, lowerL]) (by simp [Blk.lower])⟩
      simp only at h1
      exact up_of hnt hSA (by omega) hx hx2 (low_of hnt hSB (by omega) hy2 hy hcy)
    · simp (maxSteps := 2000000) -implicitDefEqProofs only [zz, ↓reduceIte, hcy]
      refine ⟨(h + 1, r), ⟨by simp only; omega, by simp only; omega, hs3, fun k' x' y' h1 h2 hx2 hy2 => ?_, hhi⟩, by simp only; omega, Weak.trimsM 1 (by simp) rfl (by simp [tget, V.lower, lowerL]) (by simp [Blk.lower])⟩
      simp only at h2
      exact dn_of hnt hSA (by omega) hx hx2 (high_of hnt hSB (by omega) hy2 hy hcy)
  obtain rfl : s = r := by omega
  obtain ⟨i, hi⟩ : ∃ i, s - a = i := ⟨_, rfl⟩
  obtain ⟨j, hj⟩ : ∃ j, mid - s = j := ⟨_, rfl⟩
  have hsa : a ≤ s := by omega
  have hsm : s ≤ mid := by omega
  obtain ⟨hc1, hc2⟩ := cut_ok hnt hir hSA hSB (i := i) (j := j) (by omega) (by omega) (fun h1 h2 x y hx hy => by
      have := hlo (s - 1) x y (by omega) (by omega) (by rw [← hx]; congr 1; omega) (by rw [← hy]; congr 1; omega)
      simpa using this) (fun h1 h2 x y hx hy => by
      have := hhi s x y (by omega) (by omega) (by rw [← hx]; congr 1) (by rw [← hy]; congr 1; omega)
      simpa using this)
  obtain ⟨A1, hA1e⟩ : ∃ A1, A1 = A.take i := ⟨_, rfl⟩
  obtain ⟨A2, hA2e⟩ : ∃ A2, A2 = A.drop i := ⟨_, rfl⟩
  obtain ⟨B1, hB1e⟩ : ∃ B1, B1 = B.take j := ⟨_, rfl⟩
  obtain ⟨B2, hB2e⟩ : ∃ B2, B2 = B.drop j := ⟨_, rfl⟩
  have hAe : A = A1 ++ A2 := by rw [hA1e, hA2e, List.take_append_drop]
  have hBe : B = B1 ++ B2 := by rw [hB1e, hB2e, List.take_append_drop]
  have la1 : A1.length = i := by rw [hA1e]; simp; omega
  have la2 : A2.length = A.length - i := by rw [hA2e]; simp
  have lb1 : B1.length = j := by rw [hB1e]; simp; omega
  have lb2 : B2.length = B.length - j := by rw [hB2e]; simp
  have sA1 := hA1e ▸ hSA.take i
  have sA2 := hA2e ▸ hSA.drop i
  have sB1 := hB1e ▸ hSB.take j
  have sB2 := hB2e ▸ hSB.drop j
  rw [← hA1e, ← hB2e] at hc1
  rw [← hB1e, ← hA2e] at hc2
  have hlist : Pre ++ (A ++ (B ++ Post)) = (Pre ++ A1) ++ (A2 ++ (B1 ++ (B2 ++ Post))) := by rw [hAe, hBe]; simp
  have hfin : Pre ++ (mg (lts c) A B ++ Post) = (Pre ++ mg (lts c) A1 B1) ++ (mg (lts c) A2 B2 ++ Post) := by
    rw [hAe, hBe, mg_split A1 B1 hc1 hc2]; simp
  have hml := mg_len (lt := lts c) A1 B1
  have hwe : IntKind.i64.wrap (((mid + m : Nat) : Int) - (s : Int)) = ((m + j : Nat) : Int) := by rw [wrap_in (by omega)]; omega
  have h' : ¬ (((s : Nat) : Int) < ((s : Nat) : Int)) := by omega
  have tl := tail A1 B1 A2 B2 s (m + j) (by simp; omega) (by omega) (by omega) (by omega) (by omega) (by omega) (by omega)
    (fun g1 g2 => ih Pre A1 B1 (A2 ++ (B2 ++ Post)) N a s mid (by omega) (by simp; omega) hN' ha (by omega) (by omega) g1 g2 sA1 sB1)
    (fun g1 g2 => ih (Pre ++ mg (lts c) A1 B1) A2 B2 Post N mid (m + j) b (by omega) (by simp; omega) hN' (by simp; omega) (by omega) (by omega) g1 g2 sA2 sB2)
  rw [hlist, hfin]
  clear hlo hhi hlist hfin hc1 hc2 tail ih
  simp (maxSteps := 2000000) -implicitDefEqProofs only [zz, evop, ev, tget, tput, ok, V.isUndef, intBin, Ch.on, told, ↓reduceIte, Nat.reduceLT, Nat.reduceEqDiff, nilTest, cutK_normal, h', hwe]
  exact Snd.weak (Weak.sub (by simp [tget])) tl

theorem r_sym (c : Int × Int → Int × Int → Int) (f : Nat) (hc : ∀ x y, CSpec Tryz.prog f [dW x, dW y] (.int .i64 (c x y))) (hnt : ∀ x y z, lts c x y = false → lts c y z = false → lts c x z = false) (hir : ∀ x, lts c x x = false) : ∀ (k : Nat) (Pre A B Post : List (Int × Int)) (N a m b : Nat), A.length + B.length ≤ k → (Pre ++ (A ++ (B ++ Post))).length = N → N ≤ 1000000 → a = Pre.length → m = a + A.length → b = m + B.length → 0 < A.length → 0 < B.length →
    Srt (lts c) A → Srt (lts c) B → symR f N a m b (Pre ++ (A ++ (B ++ Post))) (Pre ++ (mg (lts c) A B ++ Post))
  | 0, Pre, A, B, Post, N, a, m, b, hk, _, _, _, _, _, hA, _, _, _ => by omega
  | k + 1, Pre, A, B, Post, N, a, m, b, hk, hN, hN', ha, hm, hb, hA, hB, hSA, hSB => by
    rcases Nat.lt_or_ge 1 A.length with hA1 | hA1
    rotate_left
    · match A, hA, hA1 with
      | [x], _, _ => exact r_sym_left c f hc x Pre B Post N a m b hN hN' ha (by simpa using hm) hb hB hnt hSB
    rcases Nat.lt_or_ge 1 B.length with hB1 | hB1
    rotate_left
    · match B, hB, hB1 with
      | [y], _, _ => exact r_sym_right c f hc y Pre A Post N a m b hN hN' ha hm (by simpa using hb) hA1 hnt hSA
    obtain ⟨mid, hmid⟩ : ∃ mid, (a + b) / 2 = mid := ⟨_, rfl⟩
    have tail := fun s0 r0 hsr => sym32 c f hc hnt hir Pre A B Post N a m mid b s0 r0 k hk hN hN' ha hm hb hA1 hB1 hmid hSA hSB hsr (r_sym c f hc hnt hir k)
    have hN0 := hN
    simp only [List.length_append] at hN
    have hw1 : IntKind.i64.wrap ((m : Int) - (a : Int)) = (A.length : Int) := by rw [wrap_in (by omega)]; omega
    have hw2 : IntKind.i64.wrap ((b : Int) - (m : Int)) = (B.length : Int) := by rw [wrap_in (by omega)]; omega
    have e0 : ((A.length : Int) == 1) = false := by rw [beq_eq_false_iff_ne]; omega
    have e1 : ((B.length : Int) == 1) = false := by rw [beq_eq_false_iff_ne]; omega
    have hwab : IntKind.i64.wrap ((a : Int) + (b : Int)) = ((a + b : Nat) : Int) := by rw [wrap_in (by omega)]; omega
    have hwmid := half_u (a + b) (by omega)
    rw [hmid] at hwmid
    have hwn : IntKind.i64.wrap ((mid : Int) + (m : Int)) = ((mid + m : Nat) : Int) := by rw [wrap_in (by omega)]; omega
    simp only [symC, Tryz.f220, Option.getD_some, tlN] at tail
    refine RSpec.of_snd envOf_ok hmix Tryz.func220 rfl (fun args w => Tryz.call220 args w) (by simp [Tryz.f220]) ?_
    simp only [Tryz.f220]
    refine Snd.upto envOf_ok hmix 6 _ ?_
    simp only [hdN, tlN]
    simp (maxSteps := 2000000) -implicitDefEqProofs only [zz, zE, evop, ev, ofVal, tget, tput, ok, V.isUndef, intBin, Ch.on, told, ↓reduceIte, reduceCtorEq, Nat.reduceLT, Nat.reduceEqDiff, Nat.reduceAdd, Int.reduceToNat, nilTest, initV, cutK_normal, hw1, hw2, e0, e1, hwab, hwmid, hwn]
    refine ⟨⟨by decide, by decide⟩, ?_⟩
    by_cases hlt : ((mid : Int) < (m : Int))
    · have hs0 : IntKind.i64.wrap (((mid + m : Nat) : Int) - (b : Int)) = ((mid + m - b : Nat) : Int) := by rw [wrap_in (by omega)]; omega
      simp (maxSteps := 2000000) -implicitDefEqProofs only [zz, ↓reduceIte, hlt, hs0]
      exact Snd.weak (Weak.sub (by simp [tget])) (tail (mid + m - b) mid (.inl ⟨by omega, rfl, rfl⟩))
    · simp (maxSteps := 2000000) -implicitDefEqProofs only [zz, ↓reduceIte, hlt]
      exact Snd.weak (Weak.sub (by simp [tget])) (tail a m (.inr ⟨by omega, rfl, rfl⟩))

end Go.Proofs.YtjhfpabldidlgaaGreat.AM

/- The insertion sort is the merge of the two parts' sorts. -/
set_option linter.all false
namespace Go.Proofs.YtjhfpabldidlgaaGreat.AM
open Go

section
variable {α : Type} {lt : α → α → Bool}

theorem mg_mem {y : α} : ∀ {A B : List α}, y ∈ mg lt A B → y ∈ A ∨ y ∈ B
  | [], B, h => by rw [mg_nil] at h; exact .inr h
  | a :: A, [], h => by rw [mg_nil'] at h; exact .inl h
  | a :: A, b :: B, h => by
    rw [mg_cons] at h
    split at h
    · rcases List.mem_cons.1 h with rfl | h
      · exact .inl (by simp)
      · rcases mg_mem h with h | h
        · exact .inl (by simp [h])
        · exact .inr h
    · rcases List.mem_cons.1 h with rfl | h
      · exact .inr (by simp)
      · rcases mg_mem h with h | h
        · exact .inl h
        · exact .inr (by simp [h])

def PW (lt : α → α → Bool) (l : List α) : Prop := l.Pairwise (fun x y => lt y x = false)

theorem PW.srt {l : List α} (h : PW lt l) : Srt lt l := fun i j x y hij hx hy => by
  obtain ⟨hi, rfl⟩ := List.getElem?_eq_some_iff.1 hx
  obtain ⟨hj, rfl⟩ := List.getElem?_eq_some_iff.1 hy
  exact List.pairwise_iff_getElem.1 h i j hi hj hij

theorem cut_at (hnt : ∀ x y z, lt x y = false → lt y z = false → lt x z = false) {l : List α} (h : PW lt l) (x : α) : ∃ l1 l2, l = l1 ++ l2 ∧ (∀ y ∈ l1, lt x y = false) ∧ (∀ y ∈ l2, lt x y = true) := by
  induction l with
  | nil => exact ⟨[], [], rfl, by simp, by simp⟩
  | cons a r ih =>
    obtain ⟨h1, h2⟩ := List.pairwise_cons.1 h
    cases hx : lt x a with
    | true =>
      refine ⟨[], a :: r, rfl, by simp, fun y hy => ?_⟩
      rcases List.mem_cons.1 hy with rfl | hy
      · exact hx
      · cases hd : lt x y with
        | true => rfl
        | false => have := hnt x y a hd (h1 y hy); rw [hx] at this; cases this
    | false =>
      obtain ⟨l1, l2, rfl, g1, g2⟩ := ih h2
      refine ⟨a :: l1, l2, rfl, fun y hy => ?_, g2⟩
      rcases List.mem_cons.1 hy with rfl | hy
      · exact hx
      · exact g1 y hy

theorem insR_cut {l1 l2 : List α} {x : α} (h1 : ∀ y ∈ l1, lt x y = false) (h2 : ∀ y ∈ l2, lt x y = true) : insR lt x (l1 ++ l2) = l1 ++ x :: l2 := by
  have : insK lt x (l1 ++ l2) = l1.length := by
    refine insK_eq (by simp) (fun i hi y hy => ?_) ?_
    · rw [List.getElem?_append_right hi] at hy
      exact h2 y (List.mem_of_getElem? hy)
    · rcases Nat.eq_zero_or_pos l1.length with h | h
      · exact .inl h
      · refine .inr ⟨l1[l1.length - 1]'(by omega), ?_, h1 _ (List.getElem_mem _)⟩
        rw [List.getElem?_append_left (by omega), List.getElem?_eq_getElem (by omega)]
  unfold insR
  rw [this, List.take_left' rfl, List.drop_left' rfl]

theorem insR_pw (hnt : ∀ x y z, lt x y = false → lt y z = false → lt x z = false) (has : ∀ x y, lt x y = true → lt y x = false) {l : List α} (h : PW lt l) (x : α) : PW lt (insR lt x l) := by
  obtain ⟨l1, l2, rfl, g1, g2⟩ := cut_at hnt h x
  rw [insR_cut g1 g2]
  obtain ⟨p1, p2, p3⟩ := List.pairwise_append.1 h
  refine List.pairwise_append.2 ⟨p1, List.pairwise_cons.2 ⟨fun y hy => has _ _ (g2 y hy), p2⟩, fun a ha b hb => ?_⟩
  rcases List.mem_cons.1 hb with rfl | hb
  · exact g1 a ha
  · exact p3 a ha b hb

theorem isort_pw (hnt : ∀ x y z, lt x y = false → lt y z = false → lt x z = false) (has : ∀ x y, lt x y = true → lt y x = false) (l : List α) : PW lt (isort lt l) := by
  have : ∀ (l A : List α), PW lt A → PW lt (l.foldl (fun A x => insR lt x A) A) := by
    intro l
    induction l with
    | nil => intro A h; exact h
    | cons x l ih => intro A h; exact ih _ (insR_pw hnt has h x)
  exact this l [] List.Pairwise.nil

theorem mg_insR (hnt : ∀ x y z, lt x y = false → lt y z = false → lt x z = false) (has : ∀ x y, lt x y = true → lt y x = false) {L M : List α} (hL : PW lt L) (hM : PW lt M) (x : α) : mg lt L (insR lt x M) = insR lt x (mg lt L M) := by
  obtain ⟨L1, L2, rfl, a1, a2⟩ := cut_at hnt hL x
  obtain ⟨M1, M2, rfl, b1, b2⟩ := cut_at hnt hM x
  have c1 : ∀ l ∈ L1, ∀ m ∈ M2, lt m l = false := fun l hl m hm => hnt m x l (has _ _ (b2 m hm)) (a1 l hl)
  have c2 : ∀ m ∈ M1, ∀ l ∈ L2, lt m l = true := fun m hm l hl => by
    cases hd : lt m l with
    | true => rfl
    | false => have := hnt x m l (b1 m hm) hd; rw [a2 l hl] at this; cases this
  rw [insR_cut b1 b2, mg_split L1 M1 c1 c2, insR_cut (fun y hy => by rcases mg_mem hy with h | h; exact a1 y h; exact b1 y h) (fun y hy => by rcases mg_mem hy with h | h; exact a2 y h; exact b2 y h)]
  have e1 : M1 ++ x :: M2 = (M1 ++ [x]) ++ M2 := by simp
  rw [e1, mg_split L1 (M1 ++ [x]) c1 (fun y hy l hl => by
    rcases List.mem_append.1 hy with hy | hy
    · exact c2 y hy l hl
    · simp at hy; subst hy; exact a2 l hl)]
  have e2 := mg_split L1 M1 (A2 := []) (B2 := [x]) (lt := lt) (fun l hl y hy => by simp at hy; subst hy; exact a1 l hl) (by simp)
  rw [List.append_nil, mg_nil] at e2
  rw [e2]; simp

theorem isort_mg (hnt : ∀ x y z, lt x y = false → lt y z = false → lt x z = false) (has : ∀ x y, lt x y = true → lt y x = false) (A B : List α) : mg lt (isort lt A) (isort lt B) = isort lt (A ++ B) := by
  have : ∀ (n : Nat) (B : List α), B.length = n → mg lt (isort lt A) (isort lt B) = isort lt (A ++ B) := by
    intro n
    induction n with
    | zero => intro B hB; rw [List.length_eq_zero_iff.1 hB]; simp [isort, mg_nil']
    | succ n ih =>
      intro B hB
      have hne : B ≠ [] := fun e => by rw [e] at hB; simp at hB
      have e := List.dropLast_concat_getLast hne
      rw [← e, isort_snoc, mg_insR hnt has (isort_pw hnt has A) (isort_pw hnt has _), ih _ (by simp; omega), ← isort_snoc, List.append_assoc]
  exact this B.length B rfl

end
end Go.Proofs.YtjhfpabldidlgaaGreat.AM

/- writes.Last of few. -/
set_option linter.all false
set_option maxRecDepth 100000
set_option maxHeartbeats 4000000
namespace Go.Proofs.YtjhfpabldidlgaaGreat.AM
open Go Go.RowKit

end Go.Proofs.YtjhfpabldidlgaaGreat.AM
