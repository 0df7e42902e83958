/- The texts Az, Rm, Rp, Ay, joined. -/
import Derived.Test.YtjhfpabldidlgaaGreatJB4

/- AttemptPath. -/
set_option linter.all false
set_option maxRecDepth 100000
set_option maxHeartbeats 8000000
namespace Go.Proofs.YtjhfpabldidlgaaGreat.AM
open Go Go.RowKit

theorem begP_ok {c : List St} {who snap : Int} (h : mayB c who snap = true) : CodeOk c ∧ InvS c (begT c who snap) ∧ (begT c who snap).snap = snap ∧ (begT c who snap).reads = [] := by
  have hc : codeC c = 0 := by simp only [mayB, Bool.and_eq_true, decide_eq_true_eq] at h; exact h.1.1.1
  have ho := CodeOk.of hc
  obtain ⟨g1, g2, g3, _⟩ := setT_ok (new_ok ho who snap) rfl
  have e : begT c who snap = setT c.length (newT who snap) := by simp [begT, h]
  rw [e]
  exact ⟨ho, g1, g2, g3⟩

def onesL (p : List Int) : Nat := (p.filter fun n => n == 1).length
theorem onesL_snoc {p : List Int} {j : Nat} {x : Int} (hx : p[j]? = some x) : onesL (p.take (j + 1)) = onesL (p.take j) + (if x = 1 then 1 else 0) := by
  unfold onesL
  rw [List.take_succ, hx]
  simp only [Option.toList_some, List.filter_append, List.length_append, List.filter_cons, List.filter_nil]
  by_cases h : x = 1 <;> simp [h]
theorem onesL_take (p : List Int) (k : Nat) : onesL (p.take k) ≤ onesL p := by
  unfold onesL
  exact List.Sublist.length_le (List.Sublist.filter _ (List.take_sublist _ _))
theorem onesL_len (p : List Int) : onesL p ≤ p.length := List.length_filter_le _ _
theorem FrOk.ones {c : List St} : ∀ (fs : List Fr) (a : Nat) (p : List Int), FrOk c a p fs → fs.length ≤ onesL p
  | [], a, p, _ => Nat.zero_le _
  | f :: fs, a, p, h => by
    obtain ⟨m, e, k, h1, h2, h3, h4, h5, h6, h7, h8, h9⟩ := h
    have i1 := FrOk.ones fs e (p.take k) h9
    have i2 := onesL_snoc h4
    rw [if_pos rfl] at i2
    have i3 := onesL_take p (k + 1)
    simp only [List.length_cons]
    omega

theorem c_AttemptPath (c : List St) (who snap : Int) (l : List Wo) (hcl : c.length ≤ 9223372036854775807) (hll : l.length ≤ 9223372036854775807) :
    CSpec Tryz.prog 5 [.vec (c.map dS), .int .i64 who, .int .i64 snap, .vec (l.map dWo)] (.bool true) := by
  refine CSpec.of_awp envOf_ok hmix Tryz.func5 rfl (fun args w => Tryz.call5 args w) (by simp [Tryz.f5]) ?_
  simp only [Tryz.f5]
  simp (maxSteps := 2000000) -implicitDefEqProofs only [zz, evop, ev, ofVal, tget, tput, ok, V.isUndef, initT, Ch.on, calleeOf, withArgs, ↓reduceIte, reduceCtorEq, Nat.reduceLT, Nat.reduceAdd]
  refine acall_flat (by first | rfl | (simp only [xports, xport, hget]; rfl)) (c_law08_Small c hcl) rfl ?_
  try simp (maxSteps := 2000000) -implicitDefEqProofs only [zz, evop, ev, ofVal, tget, tput, ok, V.isUndef, intBin, guardOf, Ch.on, calleeOf, withArgs, told, ↓reduceIte, reduceCtorEq, Nat.reduceLT, Nat.reduceEqDiff, nilTest]
  by_cases hs : smallC c < 0
  · simp (maxSteps := 2000000) -implicitDefEqProofs only [zz, ↓reduceIte, hs]
    refine acall_flat (by first | rfl | (simp only [xports, xport, hget]; rfl)) (c_awake11) rfl ?_
    try simp (maxSteps := 2000000) -implicitDefEqProofs only [zz, evop, ev, tget, tput, ok, V.isUndef, Ch.on, xport, resOf, resV, resVs, ↓reduceIte, Nat.reduceLT]
  simp (maxSteps := 2000000) -implicitDefEqProofs only [zz, ↓reduceIte, hs]
  refine acall_flat (by first | rfl | (simp only [xports, xport, hget]; rfl)) (c_law11_small l hll) rfl ?_
  try simp (maxSteps := 2000000) -implicitDefEqProofs only [zz, zE, evop, ev, ofVal, tget, tput, ok, V.isUndef, guardOf, Ch.on, calleeOf, withArgs, told, sliceOf, lenOf, ↓reduceIte, reduceCtorEq, Nat.reduceLT, Nat.reduceEqDiff]
  cases hsl : smallL l with
  | false =>
    simp (maxSteps := 2000000) -implicitDefEqProofs only [zz, ↓reduceIte]
    refine acall_flat (by first | rfl | (simp only [xports, xport, hget]; rfl)) (c_awake11) rfl ?_
    try simp (maxSteps := 2000000) -implicitDefEqProofs only [zz, evop, ev, tget, tput, ok, V.isUndef, Ch.on, xport, resOf, resV, resVs, ↓reduceIte, Nat.reduceLT]
  | true =>
  obtain ⟨s1, s2⟩ := smallC_0 hs
  obtain ⟨s3, s4⟩ := smallL_t hsl
  have htl : ∀ s ∈ c, s.t.length ≤ 1000000 := fun s h => by have := s2 s h; omega
  have hb := c_attempt_Begin c who snap (by omega) htl
  have hcn : ∀ i, cntE c i ≤ c.length := fun i => by
    unfold cntE
    exact Nat.le_trans (List.length_filter_le _ _) (by simp; omega)
  simp (maxSteps := 2000000) -implicitDefEqProofs only [zz, ↓reduceIte]
  refine wloop_count c.length (fun i => [(30, .d (.int .i64 i)), (29, .d (.int .i64 c.length)), (28, .d (.vec (c.map dS))), (9, .d (.int .i64 (cntE c i))), (0, .d (.vec (c.map dS))), (1, .d (.int .i64 who)), (2, .d (.int .i64 snap)), (3, .d (.vec (l.map dWo)))]) (fun _ => []) (fun _ => True) trivial (Weak.sub (by simp [tget, cntE])) (fun i hi _ => ?_) (fun _ => ?_)
  · have hx : c[i]? = some c[i] := List.getElem?_eq_getElem hi
    have h' : ((i : Int) < (c.length : Int)) := by omega
    have hw : IntKind.i64.wrap ((i : Int) + 1) = ((i + 1 : Nat) : Int) := by rw [wrap_in (by omega)]; omega
    have hn := hcn i
    have hs' := cntE_succ hx
    have hwc : IntKind.i64.wrap ((cntE c i : Int) + 1) = (cntE c i : Int) + 1 := by rw [wrap_in (by omega)]
    simp (maxSteps := 2000000) -implicitDefEqProofs only [zz, zE, evop, ev, ofVal, tget, tput, ok, V.isUndef, intBin, Ch.on, told, hget, hput, V.cells, D.cells, V.one, loadD, structAt, Blk.width, splice, ↓reduceIte, reduceCtorEq, Nat.reduceLT, Nat.reduceEqDiff, Nat.reduceAdd, Nat.reduceLeDiff, nilTest, dS, h', List.getElem?_map, hx, Option.map_some, Int.natCast_nonneg, hw]
    by_cases h7 : c[i].d = 7
    · have e7 : (c[i].d == 7) = true := by simpa using h7
      rw [if_pos h7] at hs'
      simp (maxSteps := 2000000) -implicitDefEqProofs only [↓reduceIte, e7, hwc]
      rw [hs']
      exact Weak.trims 0 rfl (by simp [tget, V.lower]) (by simp)
    · have e7 : (c[i].d == 7) = false := by simpa using h7
      rw [if_neg h7] at hs'
      simp (maxSteps := 2000000) -implicitDefEqProofs only [zz, ↓reduceIte, e7]
      rw [hs']
      exact Weak.trims 0 rfl (by simp [tget, V.lower]) (by simp)
  · have h' : ¬ ((c.length : Int) < (c.length : Int)) := by omega
    simp (maxSteps := 2000000) -implicitDefEqProofs only [zz, evop, ev, tget, tput, ok, V.isUndef, intBin, Ch.on, calleeOf, withArgs, told, ↓reduceIte, reduceCtorEq, Nat.reduceLT, Nat.reduceEqDiff, nilTest, h']
    cases hB : mayB c who snap with
    | false =>
      rw [hB, if_neg (by decide)] at hb
      have e10 : ((1 : Int) != 0) = true := rfl
      generalize begT c who snap = z at hb
      simp only [dT, tyC] at hb
      refine acall_ice (by first | rfl | (simp only [xports, xport, hget]; rfl)) (hb) ?_
      try simp (maxSteps := 2000000) -implicitDefEqProofs only [zz, zE, evop, ev, ofVal, tget, tput, ok, V.isUndef, Ch.on, tids, tidss, hget, hput, freeze, V.cells, V.one, sliceOf, lenOf, splice, ↓reduceIte, reduceCtorEq, Nat.reduceLT, Nat.reduceEqDiff, Nat.reduceAdd, Nat.reduceLeDiff]
      refine wloop_count l.length (fun i => [(49, .d (.int .i64 i)), (48, .d (.int .i64 l.length)), (47, .d (.vec (l.map dWo))), (13, .d (.int .i64 1))]) (fun _ => []) (fun _ => True) trivial (Weak.trims 0 rfl (by simp [tget, V.lower]) (by simp)) (fun i hi _ => ?_) (fun _ => ?_)
      · have hx : l[i]? = some l[i] := List.getElem?_eq_getElem hi
        have h' : ((i : Int) < (l.length : Int)) := by omega
        simp (maxSteps := 2000000) -implicitDefEqProofs only [zz, zE, evop, ev, ofVal, tget, tput, ok, V.isUndef, intBin, Ch.on, calleeOf, withArgs, told, hget, hput, V.cells, D.cells, V.one, loadD, splice, ↓reduceIte, Nat.reduceLT, Nat.reduceEqDiff, Nat.reduceAdd, Nat.reduceLeDiff, nilTest, h', dWo, List.getElem?_map, hx, Option.map_some, Int.natCast_nonneg, e10]
        refine acall_flat (by first | rfl | (simp only [xports, xport, hget]; rfl)) (c_awake11) rfl ?_
        try simp (maxSteps := 2000000) -implicitDefEqProofs only [zz, evop, ev, tget, tput, ok, V.isUndef, Ch.on, xport, resOf, resV, resVs, ↓reduceIte, Nat.reduceLT]
      · have h' : ¬ ((l.length : Int) < (l.length : Int)) := by omega
        simp (maxSteps := 2000000) -implicitDefEqProofs only [zz, evop, ev, tget, tput, intBin, Ch.on, calleeOf, withArgs, told, ↓reduceIte, Nat.reduceLT, Nat.reduceEqDiff, nilTest, h']
        refine acall_flat (by first | rfl | (simp only [xports, xport, hget]; rfl)) (c_awake11) rfl ?_
        try simp (maxSteps := 2000000) -implicitDefEqProofs only [zz, evop, ev, tget, tput, ok, V.isUndef, Ch.on, xport, resOf, resV, resVs, ↓reduceIte, Nat.reduceLT]
    | true =>
      obtain ⟨ho, hi0, hsn, hrd⟩ := begP_ok hB
      rw [hB, if_pos rfl] at hb
      have e00 : ((0 : Int) != 0) = false := rfl
      generalize begT c who snap = t0 at hb hi0
      simp only [dT, tyC] at hb
      refine acall_ice (by first | rfl | (simp only [xports, xport, hget]; rfl)) (hb) ?_
      try simp (maxSteps := 2000000) -implicitDefEqProofs only [zz, zE, evop, ev, ofVal, tget, tput, ok, V.isUndef, Ch.on, tids, tidss, hget, hput, freeze, V.cells, V.one, sliceOf, lenOf, splice, ↓reduceIte, reduceCtorEq, Nat.reduceLT, Nat.reduceEqDiff, Nat.reduceAdd, Nat.reduceLeDiff]
      refine wloop_ind (σ := Nat × Ty) (fun z => l.length - z.1) (fun z => [(49, .d (.int .i64 z.1)), (48, .d (.int .i64 l.length)), (47, .d (.vec (l.map dWo))), (13, .d (.int .i64 0)), (12, .ptr 0 0 0), (9, .d (.int .i64 (cntE c c.length))), (0, .d (.vec (c.map dS)))]) (fun z => [bT z.2]) (fun z => z.1 ≤ l.length ∧ InvS c z.2) (0, t0) ⟨Nat.zero_le _, hi0⟩ ?_ ?_
      · exact Weak.trims 1 rfl (by simp [tget, V.lower]) (by simp [bT, Blk.lower, lowerL, V.lower])
      rintro ⟨i, u⟩ ⟨hi, hu⟩
      simp only at hi hu
      rcases Nat.lt_or_ge i l.length with hlt | hge
      · have hx : l[i]? = some l[i] := List.getElem?_eq_getElem hlt
        have h' : ((i : Int) < (l.length : Int)) := by omega
        have hw : IntKind.i64.wrap ((i : Int) + 1) = ((i + 1 : Nat) : Int) := by rw [wrap_in (by omega)]; omega
        obtain ⟨sz1, sz2⟩ := s4 _ (List.getElem_mem hlt)
        have st1 := c_attempt_Step c u l[i].1 l[i].2 ho hu (by omega) htl
        have hv := (hu.step ho l[i].1 l[i].2).1
        generalize stepT u c l[i].1 l[i].2 = v at st1 hv
        generalize (if mayT u l[i].1 l[i].2 = true then (0 : Int) else 1) = er at st1
        obtain ⟨b1, b2, b3, b4, b5, b6, b7, b8⟩ := hv.toInvT.lens ho
        have hones := FrOk.ones _ _ _ hv.fr
        rw [List.length_reverse] at hones
        have hpth : v.path.length ≤ cntE c c.length := Nat.le_trans hv.pth (cntE_mono (by have := hv.pcl; omega))
        have halt := hv.alt
        have hmk := hv.marks
        simp only [dT, tyC] at st1
        simp (maxSteps := 2000000) -implicitDefEqProofs only [zz, zE, evop, ev, ofVal, tget, tput, ok, V.isUndef, intBin, Ch.on, calleeOf, withArgs, told, hget, hput, V.cells, D.cells, V.one, loadD, structAt, Blk.width, splice, ↓reduceIte, reduceCtorEq, Nat.reduceLT, Nat.reduceEqDiff, Nat.reduceAdd, Nat.reduceLeDiff, nilTest, h', bT, dWo, List.getElem?_map, hx, Option.map_some, Int.natCast_nonneg]
        refine acall_ice (by first | rfl | (simp only [xports, xport, hget]; rfl)) (st1) ?_
        try simp (maxSteps := 2000000) -implicitDefEqProofs only [zz, zE, evop, ev, ofVal, tget, tput, ok, V.isUndef, Ch.on, tids, tidss, hget, hput, freeze, V.cells, V.one, structAt, sliceOf, Blk.width, lenOf, splice, ↓reduceIte, reduceCtorEq, Nat.reduceLT, Nat.reduceEqDiff, Nat.reduceAdd, Nat.reduceLeDiff]
        refine wloop_count v.path.length (fun j => [(68, .d (.int .i64 j)), (67, .d (.int .i64 v.path.length)), (66, .d (.vec (v.path.map dI))), (16, .d (.int .i64 (onesL (v.path.take j)))), (49, .d (.int .i64 i)), (48, .d (.int .i64 l.length)), (47, .d (.vec (l.map dWo))), (13, .d (.int .i64 0)), (12, .ptr 0 0 0), (9, .d (.int .i64 (cntE c c.length))), (0, .d (.vec (c.map dS)))]) (fun _ => [bT v]) (fun _ => True) trivial ?_ (fun j hj _ => ?_) (fun _ => ?_)
        · exact Weak.trims 1 rfl (by simp [tget, V.lower, onesL]) (by simp [bT, Blk.lower, lowerL, V.lower])
        · have hy : v.path[j]? = some v.path[j] := List.getElem?_eq_getElem hj
          have h2 : ((j : Int) < (v.path.length : Int)) := by omega
          have hw2 : IntKind.i64.wrap ((j : Int) + 1) = ((j + 1 : Nat) : Int) := by rw [wrap_in (by omega)]; omega
          have hol := onesL_len (v.path.take j)
          have hol2 : (v.path.take j).length ≤ 24 := by rw [List.length_take]; omega
          have hwo : IntKind.i64.wrap ((onesL (v.path.take j) : Int) + 1) = (onesL (v.path.take j) : Int) + 1 := by rw [wrap_in (by omega)]
          have hsc := onesL_snoc hy
          have ha := halt _ (List.getElem_mem hj)
          generalize v.path[j] = x at hy ha hsc
          by_cases hx1 : x = 1
          · have q1 : (x != 1) = false := by simpa using hx1
            have q2 : (x == 1) = true := by simpa using hx1
            rw [if_pos hx1] at hsc
            simp (maxSteps := 2000000) -implicitDefEqProofs only [zz, zE, evop, ev, ofVal, tget, tput, ok, V.isUndef, intBin, guardOf, Ch.on, told, D.cells, loadD, ↓reduceIte, Nat.reduceLT, Nat.reduceEqDiff, nilTest, dI, h2, bT, List.getElem?_map, hy, Option.map_some, Int.natCast_nonneg, q1, q2, hw2, hwo]
            rw [hsc]
            exact Weak.trims 1 rfl (by simp [tget, V.lower]) (by simp [bT, Blk.lower, lowerL, V.lower])
          · have hx2 : x = 2 := by omega
            have q1 : (x != 1) = true := by simpa using hx1
            have q2 : (x == 1) = false := by simpa using hx1
            have q3 : (x != 2) = false := by simpa using hx2
            rw [if_neg hx1] at hsc
            simp (maxSteps := 2000000) -implicitDefEqProofs only [zz, zE, evop, ev, ofVal, tget, tput, ok, V.isUndef, intBin, guardOf, Ch.on, told, D.cells, loadD, ↓reduceIte, Nat.reduceLT, Nat.reduceEqDiff, nilTest, dI, h2, bT, List.getElem?_map, hy, Option.map_some, Int.natCast_nonneg, q1, q2, q3, hw2]
            rw [hsc]
            exact Weak.trims 1 rfl (by simp [tget, V.lower]) (by simp [bT, Blk.lower, lowerL, V.lower])
        · have h2 : ¬ ((v.path.length : Int) < (v.path.length : Int)) := by omega
          have q1 : ¬ ((v.path.length : Int) > (cntE c c.length : Int)) := by omega
          have q2 : ((v.frames.length : Int) != (v.log.2.length : Int)) = false := by simp; omega
          have q3 : ¬ ((onesL v.path : Int) < (v.frames.length : Int)) := by omega
          have q4 : ((v.regs.length : Int) != 8) = false := by simp; omega
          have q5 : v.path.take v.path.length = v.path := List.take_length
          simp (maxSteps := 2000000) -implicitDefEqProofs only [zz, zE, evop, ev, ofVal, tget, tput, ok, V.isUndef, intBin, guardOf, Ch.on, told, hget, structAt, sliceOf, Blk.width, lenOf, ↓reduceIte, reduceCtorEq, Nat.reduceLT, Nat.reduceEqDiff, Nat.reduceAdd, nilTest, h2, bT, q1, q2, q3, q4, q5, hw]
          exact ⟨(i + 1, v), ⟨hlt, hv⟩, by simp only; omega, Weak.trims 1 rfl (by simp [tget, V.lower]) (by simp [bT, Blk.lower, lowerL, V.lower])⟩
      · have h' : ¬ ((i : Int) < (l.length : Int)) := by omega
        simp (maxSteps := 2000000) -implicitDefEqProofs only [zz, evop, ev, tget, tput, intBin, Ch.on, calleeOf, withArgs, told, ↓reduceIte, Nat.reduceLT, Nat.reduceEqDiff, nilTest, h']
        refine acall_flat (by first | rfl | (simp only [xports, xport, hget]; rfl)) (c_awake11) rfl ?_
        try simp (maxSteps := 2000000) -implicitDefEqProofs only [zz, evop, ev, tget, tput, ok, V.isUndef, Ch.on, xport, resOf, resV, resVs, ↓reduceIte, Nat.reduceLT]
end Go.Proofs.YtjhfpabldidlgaaGreat.AM

/- Cells among a law's parameters. -/
set_option linter.all false
set_option maxRecDepth 100000
namespace Go.Proofs.YtjhfpabldidlgaaGreat.AM
open Go Go.RowKit

theorem sh_bool {P : Program} {n t : Nat} {ds : List D} (ht : P.underlying t = some .bool) (h : Sh P (n + 1) t ds) : ∃ b, ds = [.bool b] := by
  simp only [Sh, ht] at h
  obtain ⟨b, rfl⟩ := h
  exact ⟨b, rfl⟩

theorem shE_C {n : Nat} {d : D} (h : ShE Tryz.prog (n + 2) 66 d) : ∃ w : Bool × Int, d = dC w ∧ True := by
  obtain ⟨ds, h1, rfl⟩ := h
  simp only [Sh, Tryz.underlying66, ShF] at h1
  obtain ⟨p, q, rfl, hp, p2, q2, rfl, hp2, rfl⟩ := h1
  obtain ⟨x, rfl⟩ := sh_bool (n := n) Tryz.underlying4 hp
  obtain ⟨y, rfl, _⟩ := sh_int (n := n) Tryz.underlying3 hp2
  exact ⟨(x, y), by simp [oneD, Tryz.underlying66, dC], trivial⟩

end Go.Proofs.YtjhfpabldidlgaaGreat.AM

/- Codes and worlds among a law's parameters. -/
set_option linter.all false
set_option maxRecDepth 100000
namespace Go.Proofs.YtjhfpabldidlgaaGreat.AM
open Go Go.RowKit

theorem shE_op {n : Nat} {d : D} (h : ShE Tryz.prog (n + 2) 118 d) : ∃ w : Int × Int, d = dW w ∧ True := by
  obtain ⟨ds, h1, rfl⟩ := h
  simp only [Sh, Tryz.underlying118, ShF] at h1
  obtain ⟨p, q, rfl, hp, p2, q2, rfl, hp2, rfl⟩ := h1
  obtain ⟨x, rfl, _⟩ := sh_int (n := n) Tryz.underlying3 hp
  obtain ⟨y, rfl, _⟩ := sh_int (n := n) Tryz.underlying3 hp2
  exact ⟨(x, y), by simp [oneD, Tryz.underlying118, dW], trivial⟩

theorem shE_St {n : Nat} {d : D} (h : ShE Tryz.prog (n + 4) 71 d) : ∃ w : St, d = dS w ∧ True := by
  obtain ⟨ds, h1, rfl⟩ := h
  simp only [Sh, Tryz.underlying71, ShF] at h1
  obtain ⟨p, q, rfl, hp, p2, q2, rfl, hp2, p3, q3, rfl, hp3, p4, q4, rfl, hp4, rfl⟩ := h1
  obtain ⟨x, rfl, _⟩ := sh_int (n := n + 2) Tryz.underlying3 (by simpa only [Sh] using hp)
  obtain ⟨y, rfl, _⟩ := sh_int (n := n + 2) Tryz.underlying3 (by simpa only [Sh] using hp2)
  obtain ⟨z, rfl, _⟩ := sh_int (n := n + 2) Tryz.underlying3 (by simpa only [Sh] using hp3)
  obtain ⟨ts, rfl, hl, _⟩ := sh_list (n := n + 2) Tryz.underlying69 (fun d h => shE_op (n := n) h) (by simpa only [Sh] using hp4)
  exact ⟨⟨x, y, z, ts⟩, by simp [oneD, Tryz.underlying71, dS], trivial⟩

theorem shE_Code {n : Nat} {d : D} (h : ShE Tryz.prog (n + 5) 22 d) : ∃ c : List St, d = .vec (c.map dS) ∧ c.length ≤ maxLen ∧ True := by
  obtain ⟨ds, h1, rfl⟩ := h
  obtain ⟨xs, rfl, hl, _⟩ := sh_list Tryz.underlying22 (fun d h => shE_St (n := n) h) h1
  exact ⟨xs, by simp [oneD, Tryz.underlying22], hl, trivial⟩

theorem shE_R {n : Nat} {d : D} (h : ShE Tryz.prog (n + 2) 68 d) : ∃ w : Int × Int, d = dW w ∧ True := by
  obtain ⟨ds, h1, rfl⟩ := h
  simp only [Sh, Tryz.underlying68, ShF] at h1
  obtain ⟨p, q, rfl, hp, p2, q2, rfl, hp2, rfl⟩ := h1
  obtain ⟨x, rfl, _⟩ := sh_int (n := n) Tryz.underlying3 hp
  obtain ⟨y, rfl, _⟩ := sh_int (n := n) Tryz.underlying3 hp2
  exact ⟨(x, y), by simp [oneD, Tryz.underlying68, dW], trivial⟩

theorem shE_Wo {n : Nat} {d : D} (h : ShE Tryz.prog (n + 4) 51 d) : ∃ w : Wo, d = dWo w ∧ True := by
  obtain ⟨ds, h1, rfl⟩ := h
  simp only [Sh, Tryz.underlying51, ShF] at h1
  obtain ⟨p, q, rfl, hp, p2, q2, rfl, hp2, rfl⟩ := h1
  obtain ⟨xs, rfl, hl, _⟩ := sh_list (n := n + 2) Tryz.underlying48 (fun d h => shE_C (n := n) h) (by simpa only [Sh] using hp)
  obtain ⟨ys, rfl, hl2, _⟩ := sh_list (n := n + 2) Tryz.underlying49 (fun d h => shE_R (n := n) h) (by simpa only [Sh] using hp2)
  exact ⟨(xs, ys), by simp [oneD, Tryz.underlying51, dWo], trivial⟩

theorem shE_Wos {n : Nat} {d : D} (h : ShE Tryz.prog (n + 5) 23 d) : ∃ l : List Wo, d = .vec (l.map dWo) ∧ l.length ≤ maxLen ∧ True := by
  obtain ⟨ds, h1, rfl⟩ := h
  obtain ⟨xs, rfl, hl, _⟩ := sh_list Tryz.underlying23 (fun d h => shE_Wo (n := n) h) h1
  exact ⟨xs, by simp [oneD, Tryz.underlying23], hl, trivial⟩
end Go.Proofs.YtjhfpabldidlgaaGreat.AM

/- AttemptReads. -/
set_option linter.all false
set_option maxRecDepth 100000
set_option maxHeartbeats 8000000
namespace Go.Proofs.YtjhfpabldidlgaaGreat.AM
open Go Go.RowKit

/-- What a step reads. -/
def NewRd (h : List (Bool × Int)) (r : List (Int × Int)) (x : Rd) : Prop := (∃ b, h[x.1.toNat]? = some (b, x.2.2)) ∧ 0 ≤ x.1 ∧ 0 ≤ x.1.tmod r.length ∧ (r.length : Int) ≠ 0 ∧ r[(x.1.tmod r.length).toNat]? = some (x.2.1, 0)

theorem doT_reads {t : Ty} {s : St} {h : List (Bool × Int)} {r : List (Int × Int)} (htb : tableR r = true) : (doT t s h r).reads = t.reads ∨ ∃ x, (doT t s h r).reads = t.reads ++ [x] ∧ NewRd h r x := by
  unfold doT
  split
  · unfold loadT
    split
    · exact .inl rfl
    · rename_i hg
      simp only [ne_eq, Decidable.not_not] at hg
      split
      · exact .inl rfl
      · split
        · exact .inl rfl
        · split
          · exact .inl rfl
          · rename_i hno
            right
            obtain ⟨z1, z2, z3, z4, z5⟩ := heapGet_0 hg
            obtain ⟨y1, y2, y3, y4, y5, y6, y7⟩ := recR_in htb z4
            refine ⟨(s.b, (recR r s.b).1, (heapGet h s.b).1), rfl, ?_, z4, y6, by omega, ?_⟩
            · obtain ⟨k, v, hk, hkl, hkg⟩ := thereB_get z2
              refine ⟨true, ?_⟩
              simp only
              unfold heapGet
              rw [if_pos z1, if_pos z2]
              rw [hk, Int.toNat_natCast, hkg]
              simp
            · simp only
              have : recR r s.b = ((recR r s.b).1, 0) := by
                have : (recR r s.b).2 = 0 := by omega
                exact Prod.ext rfl this
              rw [← this]
              unfold recR
              rw [List.getElem?_eq_getElem (by omega)]
              rfl
  · split
    · exact .inl rfl
    · split
      · unfold storeT
        split
        · exact .inl rfl
        · exact .inl rfl
      · split
        · exact .inl rfl
        · split
          · unfold agT
            split
            · exact .inl rfl
            · exact .inl rfl
          · split
            · exact .inl rfl
            · exact .inl rfl

theorem stpT_reads {c : List St} (hc : CodeOk c) {t : Ty} (hi : InvS c t) {h : List (Bool × Int)} {r : List (Int × Int)} (hmay : mayT t h r = true) : (stpT t c h r).reads = t.reads ∨ ∃ x, (stpT t c h r).reads = t.reads ++ [x] ∧ NewRd h r x := by
  have hm := hmay
  simp only [mayT, Bool.and_eq_true, decide_eq_true_eq] at hm
  obtain ⟨hlt, hst⟩ := hi.run hm.2
  have hpc := hi.pc0
  have hs : c[t.pc.toNat]? = some (c[t.pc.toNat]'(by omega)) := List.getElem?_eq_getElem (by omega)
  obtain ⟨g1, _⟩ := hi.doT hc hmay hs
  have hd := doT_reads (t := t) (s := c[t.pc.toNat]'(by omega)) (h := h) (r := r) hm.1.2
  unfold stpT
  rw [hs]
  simp only
  split
  · exact hd
  · rename_i he
    simp only [ne_eq, Decidable.not_not] at he
    rw [(setT_ok g1 he).2.2.1]
    exact hd

theorem c_AttemptReads (c : List St) (who snap : Int) (l : List Wo) (hcl : c.length ≤ 9223372036854775807) (hll : l.length ≤ 9223372036854775807) :
    CSpec Tryz.prog 4 [.vec (c.map dS), .int .i64 who, .int .i64 snap, .vec (l.map dWo)] (.bool true) := by
  refine CSpec.of_awp envOf_ok hmix Tryz.func4 rfl (fun args w => Tryz.call4 args w) (by simp [Tryz.f4]) ?_
  simp only [Tryz.f4]
  simp (maxSteps := 2000000) -implicitDefEqProofs only [zz, evop, ev, ofVal, tget, tput, ok, V.isUndef, initT, Ch.on, calleeOf, withArgs, ↓reduceIte, reduceCtorEq, Nat.reduceLT, Nat.reduceAdd]
  refine acall_flat (by first | rfl | (simp only [xports, xport, hget]; rfl)) (c_law08_Small c hcl) rfl ?_
  try simp (maxSteps := 2000000) -implicitDefEqProofs only [zz, evop, ev, ofVal, tget, tput, ok, V.isUndef, intBin, guardOf, Ch.on, calleeOf, withArgs, told, ↓reduceIte, reduceCtorEq, Nat.reduceLT, Nat.reduceEqDiff, nilTest]
  by_cases hs : smallC c < 0
  · simp (maxSteps := 2000000) -implicitDefEqProofs only [zz, ↓reduceIte, hs]
    refine acall_flat (by first | rfl | (simp only [xports, xport, hget]; rfl)) (c_awake11) rfl ?_
    try simp (maxSteps := 2000000) -implicitDefEqProofs only [zz, evop, ev, tget, tput, ok, V.isUndef, Ch.on, xport, resOf, resV, resVs, ↓reduceIte, Nat.reduceLT]
  simp (maxSteps := 2000000) -implicitDefEqProofs only [zz, ↓reduceIte, hs]
  refine acall_flat (by first | rfl | (simp only [xports, xport, hget]; rfl)) (c_law11_small l hll) rfl ?_
  try simp (maxSteps := 2000000) -implicitDefEqProofs only [zz, evop, ev, tget, tput, ok, V.isUndef, guardOf, Ch.on, calleeOf, withArgs, told, ↓reduceIte, reduceCtorEq, Nat.reduceLT, Nat.reduceEqDiff]
  cases hsl : smallL l with
  | false =>
    simp (maxSteps := 2000000) -implicitDefEqProofs only [zz, ↓reduceIte]
    refine acall_flat (by first | rfl | (simp only [xports, xport, hget]; rfl)) (c_awake11) rfl ?_
    try simp (maxSteps := 2000000) -implicitDefEqProofs only [zz, evop, ev, tget, tput, ok, V.isUndef, Ch.on, xport, resOf, resV, resVs, ↓reduceIte, Nat.reduceLT]
  | true =>
  obtain ⟨s1, s2⟩ := smallC_0 hs
  obtain ⟨s3, s4⟩ := smallL_t hsl
  have htl : ∀ s ∈ c, s.t.length ≤ 1000000 := fun s h => by have := s2 s h; omega
  have hb := c_attempt_Begin c who snap (by omega) htl
  have e00 : ((0 : Int) != 0) = false := rfl
  have e10 : ((1 : Int) != 0) = true := rfl
  cases hB : mayB c who snap with
  | false =>
    rw [hB, if_neg (by decide)] at hb
    generalize begT c who snap = z at hb
    simp only [dT, tyC] at hb
    simp (maxSteps := 2000000) -implicitDefEqProofs only [zz, ↓reduceIte]
    refine acall_ice (by first | rfl | (simp only [xports, xport, hget]; rfl)) (hb) ?_
    try simp (maxSteps := 2000000) -implicitDefEqProofs only [zz, zE, evop, ev, ofVal, tget, tput, ok, V.isUndef, Ch.on, tids, tidss, hget, hput, freeze, V.cells, V.one, sliceOf, lenOf, splice, ↓reduceIte, reduceCtorEq, Nat.reduceLT, Nat.reduceEqDiff, Nat.reduceAdd, Nat.reduceLeDiff]
    refine wloop_count l.length (fun i => [(37, .d (.int .i64 i)), (36, .d (.int .i64 l.length)), (35, .d (.vec (l.map dWo))), (10, .d (.int .i64 1)), (11, .d (.int .i64 0)), (0, .d (.vec (c.map dS)))]) (fun _ => []) (fun _ => True) trivial (Weak.trims 0 rfl (by simp [tget, V.lower]) (by simp)) (fun i hi _ => ?_) (fun _ => ?_)
    · have hx : l[i]? = some l[i] := List.getElem?_eq_getElem hi
      have h' : ((i : Int) < (l.length : Int)) := by omega
      have hlc : ((0 : Int) ≤ (c.length : Int)) := by omega
      simp (maxSteps := 2000000) -implicitDefEqProofs only [zz, zE, evop, ev, ofVal, tget, tput, ok, V.isUndef, intBin, guardOf, Ch.on, calleeOf, withArgs, told, hget, hput, V.cells, D.cells, V.one, loadD, sliceOf, lenOf, splice, ↓reduceIte, reduceCtorEq, Nat.reduceLT, Nat.reduceEqDiff, Nat.reduceAdd, Nat.reduceLeDiff, nilTest, h', dWo, List.getElem?_map, hx, Option.map_some, Int.natCast_nonneg, e10, hlc]
      refine acall_flat (by first | rfl | (simp only [xports, xport, hget]; rfl)) (c_awake11) rfl ?_
      try simp (maxSteps := 2000000) -implicitDefEqProofs only [zz, evop, ev, tget, tput, ok, V.isUndef, Ch.on, xport, resOf, resV, resVs, ↓reduceIte, Nat.reduceLT, Nat.reduceEqDiff]
    · have h' : ¬ ((l.length : Int) < (l.length : Int)) := by omega
      have hlc : ((0 : Int) ≤ (c.length : Int)) := by omega
      simp (maxSteps := 2000000) -implicitDefEqProofs only [zz, zE, evop, ev, tget, tput, ok, V.isUndef, intBin, guardOf, Ch.on, calleeOf, withArgs, told, sliceOf, lenOf, ↓reduceIte, reduceCtorEq, Nat.reduceLT, Nat.reduceEqDiff, nilTest, h', hlc]
      refine acall_flat (by first | rfl | (simp only [xports, xport, hget]; rfl)) (c_awake11) rfl ?_
      try simp (maxSteps := 2000000) -implicitDefEqProofs only [zz, evop, ev, tget, tput, ok, V.isUndef, Ch.on, xport, resOf, resV, resVs, ↓reduceIte, Nat.reduceLT, Nat.reduceEqDiff]
  | true =>
    obtain ⟨ho, hi0, hsn, hrd⟩ := begP_ok hB
    rw [hB, if_pos rfl] at hb
    generalize begT c who snap = t0 at hb hi0 hsn
    simp only [dT, tyC] at hb
    simp (maxSteps := 2000000) -implicitDefEqProofs only [zz, ↓reduceIte]
    refine acall_ice (by first | rfl | (simp only [xports, xport, hget]; rfl)) (hb) ?_
    try simp (maxSteps := 2000000) -implicitDefEqProofs only [zz, zE, evop, ev, ofVal, tget, tput, ok, V.isUndef, Ch.on, tids, tidss, hget, hput, freeze, V.cells, V.one, sliceOf, lenOf, splice, ↓reduceIte, reduceCtorEq, Nat.reduceLT, Nat.reduceEqDiff, Nat.reduceAdd, Nat.reduceLeDiff]
    refine wloop_ind (σ := Nat × Ty × Nat) (fun z => l.length - z.1) (fun z => [(37, .d (.int .i64 z.1)), (36, .d (.int .i64 l.length)), (35, .d (.vec (l.map dWo))), (10, .d (.int .i64 0)), (11, .d (.int .i64 z.2.2)), (9, .ptr 0 0 0), (0, .d (.vec (c.map dS))), (2, .d (.int .i64 snap))]) (fun z => [bT z.2.1]) (fun z => z.1 ≤ l.length ∧ InvS c z.2.1 ∧ z.2.1.snap = snap ∧ z.2.2 ≤ c.length ∧ (z.2.1.kind = 0 → (z.2.2 : Int) ≤ z.2.1.pc)) (0, t0, 0) ⟨Nat.zero_le _, hi0, hsn, Nat.zero_le _, fun _ => hi0.pc0⟩ ?_ ?_
    · exact Weak.trims 1 rfl (by simp [tget, V.lower]) (by simp [bT, Blk.lower, lowerL, V.lower])
    rintro ⟨i, u, n⟩ ⟨hi, hu, hus, hn, hnp⟩
    simp only at hi hu hus hn hnp
    have hlc : ((n : Int) ≤ (c.length : Int)) := by omega
    rcases Nat.lt_or_ge i l.length with hlt | hge
    case inr =>
      have h' : ¬ ((i : Int) < (l.length : Int)) := by omega
      simp (maxSteps := 2000000) -implicitDefEqProofs only [zz, zE, evop, ev, tget, tput, ok, V.isUndef, intBin, guardOf, Ch.on, calleeOf, withArgs, told, sliceOf, lenOf, ↓reduceIte, reduceCtorEq, Nat.reduceLT, Nat.reduceEqDiff, nilTest, h', hlc]
      refine acall_flat (by first | rfl | (simp only [xports, xport, hget]; rfl)) (c_awake11) rfl ?_
      try simp (maxSteps := 2000000) -implicitDefEqProofs only [zz, evop, ev, tget, tput, ok, V.isUndef, Ch.on, xport, resOf, resV, resVs, ↓reduceIte, Nat.reduceLT, Nat.reduceEqDiff]
    have hx : l[i]? = some l[i] := List.getElem?_eq_getElem hlt
    have h' : ((i : Int) < (l.length : Int)) := by omega
    have hw : IntKind.i64.wrap ((i : Int) + 1) = ((i + 1 : Nat) : Int) := by rw [wrap_in (by omega)]; omega
    obtain ⟨sz1, sz2⟩ := s4 _ (List.getElem_mem hlt)
    by_cases hk : u.kind = 0
    case neg =>
      have ek : (u.kind != 0) = true := by simpa using hk
      simp (maxSteps := 2000000) -implicitDefEqProofs only [zz, zE, evop, ev, ofVal, tget, tput, ok, V.isUndef, intBin, guardOf, Ch.on, calleeOf, withArgs, told, hget, hput, V.cells, D.cells, V.one, loadD, structAt, sliceOf, Blk.width, lenOf, splice, ↓reduceIte, reduceCtorEq, Nat.reduceLT, Nat.reduceEqDiff, Nat.reduceAdd, Nat.reduceLeDiff, nilTest, h', bT, dWo, List.getElem?_map, hx, Option.map_some, Int.natCast_nonneg, ek, hlc]
      refine acall_flat (by first | rfl | (simp only [xports, xport, hget]; rfl)) (c_awake11) rfl ?_
      try simp (maxSteps := 2000000) -implicitDefEqProofs only [zz, evop, ev, tget, tput, ok, V.isUndef, Ch.on, xport, resOf, resV, resVs, ↓reduceIte, Nat.reduceLT, Nat.reduceEqDiff]
    have ek : (u.kind != 0) = false := by simpa using hk
    have st1 := c_attempt_Step c u l[i].1 l[i].2 ho hu (by omega) htl
    generalize hH : l[i].1 = h at st1 sz1
    generalize hR : l[i].2 = r at st1 sz2
    cases hm : mayT u h r with
    | false =>
      rw [hm, if_neg (by decide)] at st1
      generalize stepT u c h r = v at st1
      simp only [dT, tyC] at st1
      simp (maxSteps := 2000000) -implicitDefEqProofs only [zz, zE, evop, ev, ofVal, tget, tput, ok, V.isUndef, intBin, guardOf, Ch.on, calleeOf, withArgs, told, hget, hput, V.cells, D.cells, V.one, loadD, structAt, Blk.width, splice, ↓reduceIte, reduceCtorEq, Nat.reduceLT, Nat.reduceEqDiff, Nat.reduceAdd, Nat.reduceLeDiff, nilTest, h', bT, dWo, List.getElem?_map, hx, Option.map_some, Int.natCast_nonneg, ek, hH, hR]
      refine acall_ice (by first | rfl | (simp only [xports, xport, hget]; rfl)) (st1) ?_
      try simp (maxSteps := 2000000) -implicitDefEqProofs only [zz, zE, evop, ev, ofVal, tget, tput, ok, V.isUndef, intBin, guardOf, Ch.on, calleeOf, withArgs, told, xport, tids, tidss, hget, hput, freeze, V.cells, V.one, structAt, sliceOf, Blk.width, lenOf, splice, resOf, resV, resVs, ↓reduceIte, reduceCtorEq, Nat.reduceLT, Nat.reduceEqDiff, Nat.reduceAdd, Nat.reduceLeDiff, nilTest]
      simp (maxSteps := 2000000) -implicitDefEqProofs only [↓reduceIte, e10, hw]
      exact ⟨(i + 1, u, n), ⟨hlt, hu, hus, hn, hnp⟩, by simp only; omega, Weak.trims 1 rfl (by simp [tget, V.lower]) (by simp [bT, Blk.lower, lowerL, V.lower])⟩
    | true =>
      have hpl := (hu.run hk).1
      have hnk := hnp hk
      have hse : stepT u c h r = stpT u c h r := by simp [stepT, hm]
      rw [hm, if_pos rfl, hse] at st1
      obtain ⟨hv, hvs, hvp, _⟩ := hu.stp ho hm
      have hrds := stpT_reads ho hu hm
      generalize stpT u c h r = v at st1 hv hvs hvp hrds
      obtain ⟨b1, b2, b3, b4, b5, b6, b7, b8⟩ := hv.toInvT.lens ho
      have hrr := c_reads_Right v.reads (by omega)
      rw [hv.rds] at hrr
      simp only [dT, tyC] at st1
      have hwn : IntKind.i64.wrap ((n : Int) + 1) = ((n + 1 : Nat) : Int) := by rw [wrap_in (by omega)]; omega
      have hur := (readsR_parts.1 hu.rds).2.2
      have hwr : IntKind.i64.wrap ((u.reads.length : Int) + 1) = (u.reads.length : Int) + 1 := by rw [wrap_in (by omega)]
      have hlen : v.reads.length = u.reads.length ∨ v.reads.length = u.reads.length + 1 := by
        rcases hrds with e | ⟨x, e, _⟩
        · left; rw [e]
        · right; rw [e]; simp
      have hpre : ∀ (j : Nat) (x : Rd), j < u.reads.length → v.reads[j]? = some x → u.reads[j]? = some x := fun j x hj hx => by
        rcases hrds with e | ⟨y, e, _⟩
        · rw [← e]; exact hx
        · rw [e, List.getElem?_append_left hj] at hx; exact hx
      have q1 : ¬ ((v.reads.length : Int) < (u.reads.length : Int)) := by omega
      have q2 : ¬ ((v.reads.length : Int) > (u.reads.length : Int) + 1) := by omega
      simp (maxSteps := 2000000) -implicitDefEqProofs only [zz, zE, evop, ev, ofVal, tget, tput, ok, V.isUndef, intBin, guardOf, Ch.on, calleeOf, withArgs, told, hget, hput, V.cells, D.cells, V.one, loadD, structAt, Blk.width, splice, ↓reduceIte, reduceCtorEq, Nat.reduceLT, Nat.reduceEqDiff, Nat.reduceAdd, Nat.reduceLeDiff, nilTest, h', bT, dWo, List.getElem?_map, hx, Option.map_some, Int.natCast_nonneg, ek, hH, hR]
      refine acall_ice (by first | rfl | (simp only [xports, xport, hget]; rfl)) (st1) ?_
      try simp (maxSteps := 2000000) -implicitDefEqProofs only [zz, zE, evop, ev, ofVal, tget, tput, ok, V.isUndef, intBin, guardOf, Ch.on, calleeOf, withArgs, told, xport, tids, tidss, hget, hput, freeze, V.cells, V.one, structAt, sliceOf, Blk.width, lenOf, splice, resOf, resV, resVs, ↓reduceIte, reduceCtorEq, Nat.reduceLT, Nat.reduceEqDiff, Nat.reduceAdd, Nat.reduceLeDiff, nilTest]
      simp (maxSteps := 2000000) -implicitDefEqProofs only [zz, ↓reduceIte, hwn, q1, q2, hwr]
      refine acall_flat (by first | rfl | (simp only [xports, xport, hget]; rfl)) (hrr) rfl ?_
      try simp (maxSteps := 2000000) -implicitDefEqProofs only [zz, zE, evop, ev, ofVal, tget, tput, ok, V.isUndef, guardOf, Ch.on, told, hget, structAt, sliceOf, Blk.width, lenOf, ↓reduceIte, reduceCtorEq, Nat.reduceLT, Nat.reduceEqDiff, Nat.reduceAdd]
      refine wloop_count v.reads.length (fun j => [(88, .d (.int .i64 j)), (87, .d (.int .i64 v.reads.length)), (86, .d (.vec (v.reads.map dRd))), (13, .d (.imm (dWo (h, r)) 0)), (14, .d (.imm (dT v) 0)), (37, .d (.int .i64 i)), (36, .d (.int .i64 l.length)), (35, .d (.vec (l.map dWo))), (10, .d (.int .i64 0)), (11, .d (.int .i64 ((n + 1 : Nat) : Int))), (9, .ptr 0 0 0), (0, .d (.vec (c.map dS))), (2, .d (.int .i64 snap))]) (fun _ => [bT u]) (fun _ => True) trivial ?_ (fun j hj _ => ?_) (fun _ => ?_)
      · exact Weak.close [1, 2] 1 (by simp) rfl (by simp [tget, sealF, xport, xports, tids, tidss, hget, V.lower, dT, tyC, dWo]) (by simp [bT, Blk.lower, lowerL, V.lower])
      · have hy : v.reads[j]? = some v.reads[j] := List.getElem?_eq_getElem hj
        have h2 : ((j : Int) < (v.reads.length : Int)) := by omega
        have hw2 : IntKind.i64.wrap ((j : Int) + 1) = ((j + 1 : Nat) : Int) := by rw [wrap_in (by omega)]; omega
        have hver := hv.ver _ (List.getElem_mem hj)
        have hp := fun g => hpre j _ g hy
        generalize v.reads[j] = x at hy hver hp
        have q3 : ¬ (x.2.1 > snap) := by omega
        by_cases hju : j < u.reads.length
        · have q4 : ((j : Int) < (u.reads.length : Int)) := by omega
          have hz := hp hju
          simp (maxSteps := 2000000) -implicitDefEqProofs only [zz, zE, evop, ev, tget, tput, ok, V.isUndef, intBin, Ch.on, told, hget, hput, V.cells, D.cells, V.one, loadD, splice, ↓reduceIte, Nat.reduceLT, Nat.reduceEqDiff, Nat.reduceAdd, Nat.reduceLeDiff, nilTest, dRd, h2, List.getElem?_map, hy, Option.map_some, Int.natCast_nonneg]
          refine wdraw_plan [⟨[], false, [95], [], false⟩, ⟨[0], false, [95], [], false⟩, ⟨[], false, [93, 94], [0, 1], false⟩, ⟨[0, 1, 2], true, [], [], false⟩, ⟨[0, 1, 2, 3], true, [], [], false⟩, ⟨[0, 1, 2, 3, 4], false, [99, 100, 101], [], false⟩, ⟨[0, 1, 2, 3, 4], false, [98], [5], false⟩, ⟨[0, 1, 2, 3, 4, 6], false, [98], [5], false⟩, ⟨[0, 1, 2, 3, 4, 6, 7], false, [98], [5], false⟩, ⟨[0, 1, 2, 3, 4, 5, 6, 7, 8], false, [], [], false⟩, ⟨[0, 1, 2, 3, 4, 5, 6, 7, 8, 9], false, [], [], false⟩, ⟨[0, 1, 2, 3, 4, 5, 6, 7, 8, 9, 10], false, [105, 106, 107, 108, 109], [], false⟩, ⟨[0, 1, 2, 3, 4, 5, 6, 7, 8, 9, 10], false, [104, 107], [11], false⟩, ⟨[0, 1, 2, 3, 4, 5, 6, 7, 8, 9, 10, 12], false, [104, 107], [11], false⟩, ⟨[0, 1, 2, 3, 4, 5, 6, 7, 8, 9, 10], false, [104, 105, 106], [11, 12, 13], false⟩, ⟨[0, 1, 2, 3, 4, 5, 6, 7, 8, 9, 10, 12, 13, 14], false, [104], [11], false⟩, ⟨[0, 1, 2, 3, 4, 5, 6, 7, 8, 9, 10, 12, 13, 14, 15], false, [104], [11], false⟩, ⟨[0, 1, 2, 3, 4, 5, 6, 7, 8, 9, 10, 11, 12, 13, 14, 15, 16], false, [], [], false⟩, ⟨[0, 1, 2, 3, 4, 5, 6, 7, 8, 9, 10, 11, 12, 13, 14, 15, 16, 17], false, [], [], false⟩, ⟨[0, 1, 2, 3, 4, 5, 6, 7, 8, 9, 10, 11, 12, 13, 14, 15, 16, 17, 18], true, [], [], false⟩] (by decide) ?_
          simp (maxSteps := 2000000) -implicitDefEqProofs only [zz, zE, evop, ev, ofVal, tget, tput, ok, V.isUndef, intBin, guardOf, Ch.on, told, hget, hput, V.cells, D.cells, V.isAgg, V.clo, clos, loadD, structAt, eqCells, D.scalarEq, sliceOf, Blk.width, lenOf, ↓reduceIte, reduceCtorEq, Nat.reduceLT, Nat.reduceEqDiff, Nat.reduceAdd, Nat.reduceSub, Nat.reduceLeDiff, nilTest, dRd, bT, q3, q4, List.getElem?_map, hz, Option.map_some, Int.natCast_nonneg]
          rw [hw2]
          exact Weak.trims 1 rfl (by simp [tget, V.lower]) (by simp [bT, Blk.lower, lowerL, V.lower])
        · have q4 : ¬ ((j : Int) < (u.reads.length : Int)) := by omega
          simp (maxSteps := 2000000) -implicitDefEqProofs only [zz, zE, evop, ev, tget, tput, ok, V.isUndef, intBin, Ch.on, told, hget, hput, V.cells, D.cells, V.one, loadD, splice, ↓reduceIte, Nat.reduceLT, Nat.reduceEqDiff, Nat.reduceAdd, Nat.reduceLeDiff, nilTest, dRd, h2, List.getElem?_map, hy, Option.map_some, Int.natCast_nonneg]
          refine wdraw_plan [⟨[], false, [95], [], false⟩, ⟨[0], false, [95], [], false⟩, ⟨[], false, [93, 94], [0, 1], false⟩, ⟨[0, 1, 2], true, [], [], false⟩, ⟨[0, 1, 2, 3], true, [], [], false⟩, ⟨[0, 1, 2, 3, 4], false, [99, 100, 101], [], false⟩, ⟨[0, 1, 2, 3, 4], false, [98], [5], false⟩, ⟨[0, 1, 2, 3, 4, 6], false, [98], [5], false⟩, ⟨[0, 1, 2, 3, 4, 6, 7], false, [98], [5], false⟩, ⟨[0, 1, 2, 3, 4, 5, 6, 7, 8], false, [], [], false⟩, ⟨[0, 1, 2, 3, 4, 5, 6, 7, 8, 9], false, [], [], false⟩, ⟨[0, 1, 2, 3, 4, 5, 6, 7, 8, 9, 10], false, [105, 106, 107, 108, 109], [], false⟩, ⟨[0, 1, 2, 3, 4, 5, 6, 7, 8, 9, 10], false, [104, 107], [11], false⟩, ⟨[0, 1, 2, 3, 4, 5, 6, 7, 8, 9, 10, 12], false, [104, 107], [11], false⟩, ⟨[0, 1, 2, 3, 4, 5, 6, 7, 8, 9, 10], false, [104, 105, 106], [11, 12, 13], false⟩, ⟨[0, 1, 2, 3, 4, 5, 6, 7, 8, 9, 10, 12, 13, 14], false, [104], [11], false⟩, ⟨[0, 1, 2, 3, 4, 5, 6, 7, 8, 9, 10, 12, 13, 14, 15], false, [104], [11], false⟩, ⟨[0, 1, 2, 3, 4, 5, 6, 7, 8, 9, 10, 11, 12, 13, 14, 15, 16], false, [], [], false⟩, ⟨[0, 1, 2, 3, 4, 5, 6, 7, 8, 9, 10, 11, 12, 13, 14, 15, 16, 17], false, [], [], false⟩, ⟨[0, 1, 2, 3, 4, 5, 6, 7, 8, 9, 10, 11, 12, 13, 14, 15, 16, 17, 18], true, [], [], false⟩] (by decide) ?_
          simp (maxSteps := 2000000) -implicitDefEqProofs only [zz, zE, evop, ev, ofVal, tget, tput, ok, V.isUndef, intBin, guardOf, Ch.on, told, hget, hput, V.cells, D.cells, V.isAgg, V.clo, clos, loadD, structAt, sliceOf, Blk.width, lenOf, ↓reduceIte, reduceCtorEq, Nat.reduceLT, Nat.reduceEqDiff, Nat.reduceAdd, Nat.reduceSub, Nat.reduceLeDiff, nilTest, bT, q3, q4, hw2]
          exact Weak.trims 1 rfl (by simp [tget, V.lower]) (by simp [bT, Blk.lower, lowerL, V.lower])
      · have h2 : ¬ ((v.reads.length : Int) < (v.reads.length : Int)) := by omega
        have hend : InvS c v ∧ v.snap = snap ∧ n + 1 ≤ c.length ∧ (v.kind = 0 → ((n + 1 : Nat) : Int) ≤ v.pc) := ⟨hv, by omega, by omega, fun g => by have := hvp g; omega⟩
        rcases hrds with e | ⟨x, e, ⟨⟨b, n1⟩, n2, n3, n4, n5⟩⟩
        · have q3 : ¬ ((v.reads.length : Int) > (u.reads.length : Int)) := by rw [e]; omega
          simp (maxSteps := 2000000) -implicitDefEqProofs only [zz, zE, evop, ev, tget, tput, ok, V.isUndef, intBin, Ch.on, told, hget, structAt, sliceOf, Blk.width, lenOf, ↓reduceIte, reduceCtorEq, Nat.reduceLT, Nat.reduceEqDiff, Nat.reduceAdd, nilTest, h2, bT, dT, tyC]
          refine wdraw_plan [⟨[], false, [120], [], false⟩, ⟨[0], false, [120], [], false⟩, ⟨[0, 1], false, [120], [], false⟩, ⟨[], false, [117, 118, 119], [0, 1, 2], false⟩, ⟨[0, 1, 2, 3], true, [], [], false⟩, ⟨[0, 1, 2, 3, 4], true, [], [], false⟩, ⟨[0, 1, 2, 3, 4, 5], false, [125, 126, 127, 128, 129, 130, 134, 135, 136, 137, 138, 139], [], false⟩, ⟨[0, 1, 2, 3, 4, 5, 6], false, [125, 126, 127, 128, 129, 130, 134, 135, 136, 137, 138, 139], [], false⟩, ⟨[0, 1, 2, 3, 4, 5], false, [123, 124, 127, 134, 135, 136, 137, 138, 139], [6, 7], false⟩, ⟨[0, 1, 2, 3, 4, 5, 8], false, [123, 124, 127, 134, 135, 136, 137, 138, 139], [6, 7], false⟩, ⟨[0, 1, 2, 3, 4, 5], false, [123, 124, 125, 126, 134, 135, 136, 137, 138, 139], [6, 7, 8, 9], false⟩, ⟨[0, 1, 2, 3, 4, 5, 8, 9, 10], false, [123, 124, 134, 135, 136, 137, 138, 139], [6, 7], false⟩, ⟨[0, 1, 2, 3, 4, 5, 8, 9, 10, 11], false, [123, 124, 134, 135, 136, 137, 138, 139], [6, 7], false⟩, ⟨[0, 1, 2, 3, 4, 5, 8, 9, 10, 11, 12], false, [123, 124, 134, 135, 136, 137, 138, 139], [6, 7], false⟩, ⟨[0, 1, 2, 3, 4, 5, 6, 7, 8, 9, 10, 11, 12, 13], false, [134, 135, 136, 137, 138, 139], [], false⟩, ⟨[0, 1, 2, 3, 4, 5, 6, 7, 8, 9, 10, 11, 12, 13, 14], false, [134, 135, 136, 137, 138, 139], [], false⟩, ⟨[0, 1, 2, 3, 4, 5, 6, 7, 8, 9, 10, 11, 12, 13, 14, 15], false, [134, 135, 136, 137, 138, 139], [], false⟩, ⟨[0, 1, 2, 3, 4, 5], false, [123, 124, 125, 126, 127, 128, 129, 130, 131, 132, 133, 136], [6, 7, 8, 9, 10, 11, 12, 13, 14, 15, 16], false⟩, ⟨[0, 1, 2, 3, 4, 5, 17], false, [123, 124, 125, 126, 127, 128, 129, 130, 131, 132, 133, 136], [6, 7, 8, 9, 10, 11, 12, 13, 14, 15, 16], false⟩, ⟨[0, 1, 2, 3, 4, 5], false, [123, 124, 125, 126, 127, 128, 129, 130, 131, 132, 133, 134, 135], [6, 7, 8, 9, 10, 11, 12, 13, 14, 15, 16, 17, 18], false⟩, ⟨[0, 1, 2, 3, 4, 5, 17, 18, 19], false, [123, 124, 125, 126, 127, 128, 129, 130, 131, 132, 133], [6, 7, 8, 9, 10, 11, 12, 13, 14, 15, 16], false⟩, ⟨[0, 1, 2, 3, 4, 5, 17, 18, 19, 20], false, [123, 124, 125, 126, 127, 128, 129, 130, 131, 132, 133], [6, 7, 8, 9, 10, 11, 12, 13, 14, 15, 16], false⟩, ⟨[0, 1, 2, 3, 4, 5, 17, 18, 19, 20, 21], false, [123, 124, 125, 126, 127, 128, 129, 130, 131, 132, 133], [6, 7, 8, 9, 10, 11, 12, 13, 14, 15, 16], false⟩, ⟨[0, 1, 2, 3, 4, 5, 6, 7, 8, 9, 10, 11, 12, 13, 14, 15, 16, 17, 18, 19, 20, 21, 22], false, [], [], false⟩, ⟨[0, 1, 2, 3, 4, 5, 6, 7, 8, 9, 10, 11, 12, 13, 14, 15, 16, 17, 18, 19, 20, 21, 22, 23], false, [], [], false⟩, ⟨[0, 1, 2, 3, 4, 5, 6, 7, 8, 9, 10, 11, 12, 13, 14, 15, 16, 17, 18, 19, 20, 21, 22, 23, 24], false, [144, 145, 146, 147, 148, 149, 150, 151, 152, 153, 156, 157, 158, 159, 160, 161, 162], [], false⟩, ⟨[0, 1, 2, 3, 4, 5, 6, 7, 8, 9, 10, 11, 12, 13, 14, 15, 16, 17, 18, 19, 20, 21, 22, 23, 24, 25], false, [144, 145, 146, 147, 148, 149, 150, 151, 152, 153, 156, 157, 158, 159, 160, 161, 162], [], false⟩, ⟨[0, 1, 2, 3, 4, 5, 6, 7, 8, 9, 10, 11, 12, 13, 14, 15, 16, 17, 18, 19, 20, 21, 22, 23, 24], false, [142, 143, 146, 150, 151, 152, 156, 157, 158, 159, 160, 161, 162], [25, 26], false⟩, ⟨[0, 1, 2, 3, 4, 5, 6, 7, 8, 9, 10, 11, 12, 13, 14, 15, 16, 17, 18, 19, 20, 21, 22, 23, 24, 27], false, [142, 143, 146, 150, 151, 152, 156, 157, 158, 159, 160, 161, 162], [25, 26], false⟩, ⟨[0, 1, 2, 3, 4, 5, 6, 7, 8, 9, 10, 11, 12, 13, 14, 15, 16, 17, 18, 19, 20, 21, 22, 23, 24], false, [142, 143, 144, 145, 150, 151, 152, 156, 157, 158, 159, 160, 161, 162], [25, 26, 27, 28], false⟩, ⟨[0, 1, 2, 3, 4, 5, 6, 7, 8, 9, 10, 11, 12, 13, 14, 15, 16, 17, 18, 19, 20, 21, 22, 23, 24, 27, 28, 29], false, [142, 143, 150, 151, 152, 156, 157, 158, 159, 160, 161, 162], [25, 26], false⟩, ⟨[0, 1, 2, 3, 4, 5, 6, 7, 8, 9, 10, 11, 12, 13, 14, 15, 16, 17, 18, 19, 20, 21, 22, 23, 24, 27, 28, 29, 30], false, [142, 143, 150, 151, 152, 156, 157, 158, 159, 160, 161, 162], [25, 26], false⟩, ⟨[0, 1, 2, 3, 4, 5, 6, 7, 8, 9, 10, 11, 12, 13, 14, 15, 16, 17, 18, 19, 20, 21, 22, 23, 24, 27, 28, 29, 30, 31], false, [142, 143, 150, 151, 152, 156, 157, 158, 159, 160, 161, 162], [25, 26], false⟩, ⟨[0, 1, 2, 3, 4, 5, 6, 7, 8, 9, 10, 11, 12, 13, 14, 15, 16, 17, 18, 19, 20, 21, 22, 23, 24], false, [142, 143, 144, 145, 146, 147, 148, 149, 156, 157, 158, 159, 160, 161, 162], [25, 26, 27, 28, 29, 30, 31, 32], false⟩, ⟨[0, 1, 2, 3, 4, 5, 6, 7, 8, 9, 10, 11, 12, 13, 14, 15, 16, 17, 18, 19, 20, 21, 22, 23, 24, 33], false, [142, 143, 144, 145, 146, 147, 148, 149, 156, 157, 158, 159, 160, 161, 162], [25, 26, 27, 28, 29, 30, 31, 32], false⟩, ⟨[0, 1, 2, 3, 4, 5, 6, 7, 8, 9, 10, 11, 12, 13, 14, 15, 16, 17, 18, 19, 20, 21, 22, 23, 24, 33, 34], false, [142, 143, 144, 145, 146, 147, 148, 149, 156, 157, 158, 159, 160, 161, 162], [25, 26, 27, 28, 29, 30, 31, 32], false⟩, ⟨[0, 1, 2, 3, 4, 5, 6, 7, 8, 9, 10, 11, 12, 13, 14, 15, 16, 17, 18, 19, 20, 21, 22, 23, 24, 27, 28, 29, 30, 31, 32, 33, 34, 35], false, [142, 143, 156, 157, 158, 159, 160, 161, 162], [25, 26], false⟩, ⟨[0, 1, 2, 3, 4, 5, 6, 7, 8, 9, 10, 11, 12, 13, 14, 15, 16, 17, 18, 19, 20, 21, 22, 23, 24, 25, 26, 27, 28, 29, 30, 31, 32, 33, 34, 35, 36], false, [156, 157, 158, 159, 160, 161, 162], [], false⟩, ⟨[0, 1, 2, 3, 4, 5, 6, 7, 8, 9, 10, 11, 12, 13, 14, 15, 16, 17, 18, 19, 20, 21, 22, 23, 24, 25, 26, 27, 28, 29, 30, 31, 32, 33, 34, 35, 36, 37], false, [156, 157, 158, 159, 160, 161, 162], [], false⟩, ⟨[0, 1, 2, 3, 4, 5, 6, 7, 8, 9, 10, 11, 12, 13, 14, 15, 16, 17, 18, 19, 20, 21, 22, 23, 24], false, [142, 143, 144, 145, 146, 147, 148, 149, 150, 151, 152, 153, 154, 155, 158], [25, 26, 27, 28, 29, 30, 31, 32, 33, 34, 35, 36, 37, 38], false⟩, ⟨[0, 1, 2, 3, 4, 5, 6, 7, 8, 9, 10, 11, 12, 13, 14, 15, 16, 17, 18, 19, 20, 21, 22, 23, 24, 39], false, [142, 143, 144, 145, 146, 147, 148, 149, 150, 151, 152, 153, 154, 155, 158], [25, 26, 27, 28, 29, 30, 31, 32, 33, 34, 35, 36, 37, 38], false⟩, ⟨[0, 1, 2, 3, 4, 5, 6, 7, 8, 9, 10, 11, 12, 13, 14, 15, 16, 17, 18, 19, 20, 21, 22, 23, 24], false, [142, 143, 144, 145, 146, 147, 148, 149, 150, 151, 152, 153, 154, 155, 156, 157], [25, 26, 27, 28, 29, 30, 31, 32, 33, 34, 35, 36, 37, 38, 39, 40], false⟩, ⟨[0, 1, 2, 3, 4, 5, 6, 7, 8, 9, 10, 11, 12, 13, 14, 15, 16, 17, 18, 19, 20, 21, 22, 23, 24, 39, 40, 41], false, [142, 143, 144, 145, 146, 147, 148, 149, 150, 151, 152, 153, 154, 155], [25, 26, 27, 28, 29, 30, 31, 32, 33, 34, 35, 36, 37, 38], false⟩, ⟨[0, 1, 2, 3, 4, 5, 6, 7, 8, 9, 10, 11, 12, 13, 14, 15, 16, 17, 18, 19, 20, 21, 22, 23, 24, 39, 40, 41, 42], false, [142, 143, 144, 145, 146, 147, 148, 149, 150, 151, 152, 153, 154, 155], [25, 26, 27, 28, 29, 30, 31, 32, 33, 34, 35, 36, 37, 38], false⟩, ⟨[0, 1, 2, 3, 4, 5, 6, 7, 8, 9, 10, 11, 12, 13, 14, 15, 16, 17, 18, 19, 20, 21, 22, 23, 24, 39, 40, 41, 42, 43], false, [142, 143, 144, 145, 146, 147, 148, 149, 150, 151, 152, 153, 154, 155], [25, 26, 27, 28, 29, 30, 31, 32, 33, 34, 35, 36, 37, 38], false⟩, ⟨[0, 1, 2, 3, 4, 5, 6, 7, 8, 9, 10, 11, 12, 13, 14, 15, 16, 17, 18, 19, 20, 21, 22, 23, 24, 39, 40, 41, 42, 43, 44], false, [142, 143, 144, 145, 146, 147, 148, 149, 150, 151, 152, 153, 154, 155], [25, 26, 27, 28, 29, 30, 31, 32, 33, 34, 35, 36, 37, 38], false⟩, ⟨[0, 1, 2, 3, 4, 5, 6, 7, 8, 9, 10, 11, 12, 13, 14, 15, 16, 17, 18, 19, 20, 21, 22, 23, 24, 25, 26, 27, 28, 29, 30, 31, 32, 33, 34, 35, 36, 37, 38, 39, 40, 41, 42, 43, 44, 45], false, [], [], false⟩, ⟨[0, 1, 2, 3, 4, 5, 6, 7, 8, 9, 10, 11, 12, 13, 14, 15, 16, 17, 18, 19, 20, 21, 22, 23, 24, 25, 26, 27, 28, 29, 30, 31, 32, 33, 34, 35, 36, 37, 38, 39, 40, 41, 42, 43, 44, 45, 46], false, [], [], false⟩, ⟨[0, 1, 2, 3, 4, 5, 6, 7, 8, 9, 10, 11, 12, 13, 14, 15, 16, 17, 18, 19, 20, 21, 22, 23, 24, 25, 26, 27, 28, 29, 30, 31, 32, 33, 34, 35, 36, 37, 38, 39, 40, 41, 42, 43, 44, 45, 46, 47], true, [], [], false⟩] (by decide +kernel) ?_
          simp (maxSteps := 2000000) -implicitDefEqProofs only [zz, zE, evop, ev, ofVal, tget, tput, ok, V.isUndef, intBin, guardOf, Ch.on, told, hget, hput, V.cells, D.cells, V.isAgg, V.one, loadD, structAt, sliceOf, lenOf, splice, ↓reduceIte, reduceCtorEq, Nat.reduceLT, Nat.reduceEqDiff, Nat.reduceAdd, Nat.reduceSub, Nat.reduceLeDiff, nilTest, q3, hw]
          exact ⟨(i + 1, v, n + 1), ⟨hlt, hend⟩, by simp only; omega, Weak.trims 1 rfl (by simp [tget, V.lower]) (by simp [bT, Blk.lower, lowerL, V.lower])⟩
        · have q3 : ((v.reads.length : Int) > (u.reads.length : Int)) := by have := congrArg List.length e; simp at this; omega
          have hz : v.reads[u.reads.length]? = some x := by rw [e]; simp
          simp (maxSteps := 2000000) -implicitDefEqProofs only [zz, zE, evop, ev, tget, tput, ok, V.isUndef, intBin, Ch.on, told, hget, structAt, sliceOf, Blk.width, lenOf, ↓reduceIte, reduceCtorEq, Nat.reduceLT, Nat.reduceEqDiff, Nat.reduceAdd, nilTest, h2, bT, dT, tyC]
          refine wdraw_plan [⟨[], false, [120], [], false⟩, ⟨[0], false, [120], [], false⟩, ⟨[0, 1], false, [120], [], false⟩, ⟨[], false, [117, 118, 119], [0, 1, 2], false⟩, ⟨[0, 1, 2, 3], true, [], [], false⟩, ⟨[0, 1, 2, 3, 4], true, [], [], false⟩, ⟨[0, 1, 2, 3, 4, 5], false, [125, 126, 127, 128, 129, 130, 134, 135, 136, 137, 138, 139], [], false⟩, ⟨[0, 1, 2, 3, 4, 5, 6], false, [125, 126, 127, 128, 129, 130, 134, 135, 136, 137, 138, 139], [], false⟩, ⟨[0, 1, 2, 3, 4, 5], false, [123, 124, 127, 134, 135, 136, 137, 138, 139], [6, 7], false⟩, ⟨[0, 1, 2, 3, 4, 5, 8], false, [123, 124, 127, 134, 135, 136, 137, 138, 139], [6, 7], false⟩, ⟨[0, 1, 2, 3, 4, 5], false, [123, 124, 125, 126, 134, 135, 136, 137, 138, 139], [6, 7, 8, 9], false⟩, ⟨[0, 1, 2, 3, 4, 5, 8, 9, 10], false, [123, 124, 134, 135, 136, 137, 138, 139], [6, 7], false⟩, ⟨[0, 1, 2, 3, 4, 5, 8, 9, 10, 11], false, [123, 124, 134, 135, 136, 137, 138, 139], [6, 7], false⟩, ⟨[0, 1, 2, 3, 4, 5, 8, 9, 10, 11, 12], false, [123, 124, 134, 135, 136, 137, 138, 139], [6, 7], false⟩, ⟨[0, 1, 2, 3, 4, 5, 6, 7, 8, 9, 10, 11, 12, 13], false, [134, 135, 136, 137, 138, 139], [], false⟩, ⟨[0, 1, 2, 3, 4, 5, 6, 7, 8, 9, 10, 11, 12, 13, 14], false, [134, 135, 136, 137, 138, 139], [], false⟩, ⟨[0, 1, 2, 3, 4, 5, 6, 7, 8, 9, 10, 11, 12, 13, 14, 15], false, [134, 135, 136, 137, 138, 139], [], false⟩, ⟨[0, 1, 2, 3, 4, 5], false, [123, 124, 125, 126, 127, 128, 129, 130, 131, 132, 133, 136], [6, 7, 8, 9, 10, 11, 12, 13, 14, 15, 16], false⟩, ⟨[0, 1, 2, 3, 4, 5, 17], false, [123, 124, 125, 126, 127, 128, 129, 130, 131, 132, 133, 136], [6, 7, 8, 9, 10, 11, 12, 13, 14, 15, 16], false⟩, ⟨[0, 1, 2, 3, 4, 5], false, [123, 124, 125, 126, 127, 128, 129, 130, 131, 132, 133, 134, 135], [6, 7, 8, 9, 10, 11, 12, 13, 14, 15, 16, 17, 18], false⟩, ⟨[0, 1, 2, 3, 4, 5, 17, 18, 19], false, [123, 124, 125, 126, 127, 128, 129, 130, 131, 132, 133], [6, 7, 8, 9, 10, 11, 12, 13, 14, 15, 16], false⟩, ⟨[0, 1, 2, 3, 4, 5, 17, 18, 19, 20], false, [123, 124, 125, 126, 127, 128, 129, 130, 131, 132, 133], [6, 7, 8, 9, 10, 11, 12, 13, 14, 15, 16], false⟩, ⟨[0, 1, 2, 3, 4, 5, 17, 18, 19, 20, 21], false, [123, 124, 125, 126, 127, 128, 129, 130, 131, 132, 133], [6, 7, 8, 9, 10, 11, 12, 13, 14, 15, 16], false⟩, ⟨[0, 1, 2, 3, 4, 5, 6, 7, 8, 9, 10, 11, 12, 13, 14, 15, 16, 17, 18, 19, 20, 21, 22], false, [], [], false⟩, ⟨[0, 1, 2, 3, 4, 5, 6, 7, 8, 9, 10, 11, 12, 13, 14, 15, 16, 17, 18, 19, 20, 21, 22, 23], false, [], [], false⟩, ⟨[0, 1, 2, 3, 4, 5, 6, 7, 8, 9, 10, 11, 12, 13, 14, 15, 16, 17, 18, 19, 20, 21, 22, 23, 24], false, [144, 145, 146, 147, 148, 149, 150, 151, 152, 153, 156, 157, 158, 159, 160, 161, 162], [], false⟩, ⟨[0, 1, 2, 3, 4, 5, 6, 7, 8, 9, 10, 11, 12, 13, 14, 15, 16, 17, 18, 19, 20, 21, 22, 23, 24, 25], false, [144, 145, 146, 147, 148, 149, 150, 151, 152, 153, 156, 157, 158, 159, 160, 161, 162], [], false⟩, ⟨[0, 1, 2, 3, 4, 5, 6, 7, 8, 9, 10, 11, 12, 13, 14, 15, 16, 17, 18, 19, 20, 21, 22, 23, 24], false, [142, 143, 146, 150, 151, 152, 156, 157, 158, 159, 160, 161, 162], [25, 26], false⟩, ⟨[0, 1, 2, 3, 4, 5, 6, 7, 8, 9, 10, 11, 12, 13, 14, 15, 16, 17, 18, 19, 20, 21, 22, 23, 24, 27], false, [142, 143, 146, 150, 151, 152, 156, 157, 158, 159, 160, 161, 162], [25, 26], false⟩, ⟨[0, 1, 2, 3, 4, 5, 6, 7, 8, 9, 10, 11, 12, 13, 14, 15, 16, 17, 18, 19, 20, 21, 22, 23, 24], false, [142, 143, 144, 145, 150, 151, 152, 156, 157, 158, 159, 160, 161, 162], [25, 26, 27, 28], false⟩, ⟨[0, 1, 2, 3, 4, 5, 6, 7, 8, 9, 10, 11, 12, 13, 14, 15, 16, 17, 18, 19, 20, 21, 22, 23, 24, 27, 28, 29], false, [142, 143, 150, 151, 152, 156, 157, 158, 159, 160, 161, 162], [25, 26], false⟩, ⟨[0, 1, 2, 3, 4, 5, 6, 7, 8, 9, 10, 11, 12, 13, 14, 15, 16, 17, 18, 19, 20, 21, 22, 23, 24, 27, 28, 29, 30], false, [142, 143, 150, 151, 152, 156, 157, 158, 159, 160, 161, 162], [25, 26], false⟩, ⟨[0, 1, 2, 3, 4, 5, 6, 7, 8, 9, 10, 11, 12, 13, 14, 15, 16, 17, 18, 19, 20, 21, 22, 23, 24, 27, 28, 29, 30, 31], false, [142, 143, 150, 151, 152, 156, 157, 158, 159, 160, 161, 162], [25, 26], false⟩, ⟨[0, 1, 2, 3, 4, 5, 6, 7, 8, 9, 10, 11, 12, 13, 14, 15, 16, 17, 18, 19, 20, 21, 22, 23, 24], false, [142, 143, 144, 145, 146, 147, 148, 149, 156, 157, 158, 159, 160, 161, 162], [25, 26, 27, 28, 29, 30, 31, 32], false⟩, ⟨[0, 1, 2, 3, 4, 5, 6, 7, 8, 9, 10, 11, 12, 13, 14, 15, 16, 17, 18, 19, 20, 21, 22, 23, 24, 33], false, [142, 143, 144, 145, 146, 147, 148, 149, 156, 157, 158, 159, 160, 161, 162], [25, 26, 27, 28, 29, 30, 31, 32], false⟩, ⟨[0, 1, 2, 3, 4, 5, 6, 7, 8, 9, 10, 11, 12, 13, 14, 15, 16, 17, 18, 19, 20, 21, 22, 23, 24, 33, 34], false, [142, 143, 144, 145, 146, 147, 148, 149, 156, 157, 158, 159, 160, 161, 162], [25, 26, 27, 28, 29, 30, 31, 32], false⟩, ⟨[0, 1, 2, 3, 4, 5, 6, 7, 8, 9, 10, 11, 12, 13, 14, 15, 16, 17, 18, 19, 20, 21, 22, 23, 24, 27, 28, 29, 30, 31, 32, 33, 34, 35], false, [142, 143, 156, 157, 158, 159, 160, 161, 162], [25, 26], false⟩, ⟨[0, 1, 2, 3, 4, 5, 6, 7, 8, 9, 10, 11, 12, 13, 14, 15, 16, 17, 18, 19, 20, 21, 22, 23, 24, 25, 26, 27, 28, 29, 30, 31, 32, 33, 34, 35, 36], false, [156, 157, 158, 159, 160, 161, 162], [], false⟩, ⟨[0, 1, 2, 3, 4, 5, 6, 7, 8, 9, 10, 11, 12, 13, 14, 15, 16, 17, 18, 19, 20, 21, 22, 23, 24, 25, 26, 27, 28, 29, 30, 31, 32, 33, 34, 35, 36, 37], false, [156, 157, 158, 159, 160, 161, 162], [], false⟩, ⟨[0, 1, 2, 3, 4, 5, 6, 7, 8, 9, 10, 11, 12, 13, 14, 15, 16, 17, 18, 19, 20, 21, 22, 23, 24], false, [142, 143, 144, 145, 146, 147, 148, 149, 150, 151, 152, 153, 154, 155, 158], [25, 26, 27, 28, 29, 30, 31, 32, 33, 34, 35, 36, 37, 38], false⟩, ⟨[0, 1, 2, 3, 4, 5, 6, 7, 8, 9, 10, 11, 12, 13, 14, 15, 16, 17, 18, 19, 20, 21, 22, 23, 24, 39], false, [142, 143, 144, 145, 146, 147, 148, 149, 150, 151, 152, 153, 154, 155, 158], [25, 26, 27, 28, 29, 30, 31, 32, 33, 34, 35, 36, 37, 38], false⟩, ⟨[0, 1, 2, 3, 4, 5, 6, 7, 8, 9, 10, 11, 12, 13, 14, 15, 16, 17, 18, 19, 20, 21, 22, 23, 24], false, [142, 143, 144, 145, 146, 147, 148, 149, 150, 151, 152, 153, 154, 155, 156, 157], [25, 26, 27, 28, 29, 30, 31, 32, 33, 34, 35, 36, 37, 38, 39, 40], false⟩, ⟨[0, 1, 2, 3, 4, 5, 6, 7, 8, 9, 10, 11, 12, 13, 14, 15, 16, 17, 18, 19, 20, 21, 22, 23, 24, 39, 40, 41], false, [142, 143, 144, 145, 146, 147, 148, 149, 150, 151, 152, 153, 154, 155], [25, 26, 27, 28, 29, 30, 31, 32, 33, 34, 35, 36, 37, 38], false⟩, ⟨[0, 1, 2, 3, 4, 5, 6, 7, 8, 9, 10, 11, 12, 13, 14, 15, 16, 17, 18, 19, 20, 21, 22, 23, 24, 39, 40, 41, 42], false, [142, 143, 144, 145, 146, 147, 148, 149, 150, 151, 152, 153, 154, 155], [25, 26, 27, 28, 29, 30, 31, 32, 33, 34, 35, 36, 37, 38], false⟩, ⟨[0, 1, 2, 3, 4, 5, 6, 7, 8, 9, 10, 11, 12, 13, 14, 15, 16, 17, 18, 19, 20, 21, 22, 23, 24, 39, 40, 41, 42, 43], false, [142, 143, 144, 145, 146, 147, 148, 149, 150, 151, 152, 153, 154, 155], [25, 26, 27, 28, 29, 30, 31, 32, 33, 34, 35, 36, 37, 38], false⟩, ⟨[0, 1, 2, 3, 4, 5, 6, 7, 8, 9, 10, 11, 12, 13, 14, 15, 16, 17, 18, 19, 20, 21, 22, 23, 24, 39, 40, 41, 42, 43, 44], false, [142, 143, 144, 145, 146, 147, 148, 149, 150, 151, 152, 153, 154, 155], [25, 26, 27, 28, 29, 30, 31, 32, 33, 34, 35, 36, 37, 38], false⟩, ⟨[0, 1, 2, 3, 4, 5, 6, 7, 8, 9, 10, 11, 12, 13, 14, 15, 16, 17, 18, 19, 20, 21, 22, 23, 24, 25, 26, 27, 28, 29, 30, 31, 32, 33, 34, 35, 36, 37, 38, 39, 40, 41, 42, 43, 44, 45], false, [], [], false⟩, ⟨[0, 1, 2, 3, 4, 5, 6, 7, 8, 9, 10, 11, 12, 13, 14, 15, 16, 17, 18, 19, 20, 21, 22, 23, 24, 25, 26, 27, 28, 29, 30, 31, 32, 33, 34, 35, 36, 37, 38, 39, 40, 41, 42, 43, 44, 45, 46], false, [], [], false⟩, ⟨[0, 1, 2, 3, 4, 5, 6, 7, 8, 9, 10, 11, 12, 13, 14, 15, 16, 17, 18, 19, 20, 21, 22, 23, 24, 25, 26, 27, 28, 29, 30, 31, 32, 33, 34, 35, 36, 37, 38, 39, 40, 41, 42, 43, 44, 45, 46, 47], true, [], [], false⟩] (by decide +kernel) ?_
          simp (maxSteps := 2000000) -implicitDefEqProofs only [zz, zE, evop, ev, ofVal, tget, tput, ok, V.isUndef, intBin, guardOf, Ch.on, told, xport, hget, hput, V.cells, D.cells, V.isAgg, V.one, V.clo, clos, loadD, structAt, eqCells, D.scalarEq, sliceOf, partsV, Blk.width, lenOf, splice, resOf, resV, resVs, ↓reduceIte, reduceCtorEq, Nat.reduceLT, Nat.reduceEqDiff, Nat.reduceAdd, Nat.reduceSub, Nat.reduceLeDiff, nilTest, dW, dC, dRd, q3, dWo, List.getElem?_map, hz, n1, n2, n5, Option.map_some, Int.natCast_nonneg]
          refine ⟨n4, n3, ?_⟩
          rw [hw]
          exact ⟨(i + 1, v, n + 1), ⟨hlt, hend⟩, by simp only; omega, Weak.trims 1 rfl (by simp [tget, V.lower]) (by simp [bT, Blk.lower, lowerL, V.lower])⟩
end Go.Proofs.YtjhfpabldidlgaaGreat.AM
