/- The texts Ax, Rm, Rp, joined. -/
import Derived.Test.YtjhfpabldidlgaaGreatJA5

/- AttemptTells. -/
set_option linter.all false
set_option maxRecDepth 100000
set_option maxHeartbeats 8000000
namespace Go.Proofs.YtjhfpabldidlgaaGreat.AM
open Go Go.RowKit

theorem InvT.frs {c : List St} {t : Ty} (h : InvT c t) : ∀ f ∈ t.frames, f.regs.length = 8 := by
  have : ∀ (fs : List Fr) (a : Nat) (p : List Int), FrOk c a p fs → ∀ f ∈ fs, f.regs.length = 8 := by
    intro fs
    induction fs with
    | nil => intro a p _ f hf; simp at hf
    | cons g r ih =>
      intro a p hfr f hf
      obtain ⟨m, e, k, h1, h2, h3, h4, h5, h6, h7, h8, h9⟩ := hfr
      rcases List.mem_cons.1 hf with rfl | hf
      · exact h6
      · exact ih _ _ h9 f hf
  intro f hf
  exact this _ _ _ h.fr f (by simpa using hf)

theorem same_ok {c : List St} (hc : CodeOk c) {t : Ty} (h : InvT c t) : CSpec Tryz.prog 18 [dT t, dT t] (.bool true) := by
  obtain ⟨b1, b2, b3, b4, b5, b6, b7, b8⟩ := h.lens hc
  exact c_r11_Same t (by omega) (by omega) (by omega) (by omega) (by omega) (by omega) (fun f hf => by rw [h.frs f hf]; decide)

theorem lastW_short (l : Lg) (h : l.1.length ≤ 24) : (lastW l.1).length ≤ 24 := by have := lastW_len l.1; omega

theorem outs_ok {c : List St} (hc : CodeOk c) {t : Ty} (h : InvT c t) : CSpec Tryz.prog 24 [dT t] (dO (outT t)) ∧ CSpec Tryz.prog 25 [dT t] (dO (outT t)) ∧ CSpec Tryz.prog 22 [dO (outT t), dO (outT t)] (.bool true) := by
  obtain ⟨b1, b2, b3, b4, b5, b6, b7, b8⟩ := h.lens hc
  refine ⟨c_attempt_Out t (by omega) h.rds h.log, c_r11_Out t (by omega) h.rds h.log, ?_⟩
  have hs := srtC_len t.reads
  have hw := lastW_short t.log b4
  unfold outT
  split
  · exact c_r10_Same _ (by simp only; omega) (by simp only; omega) (by simp only; omega) (by simp only; omega)
  · exact c_r10_Same _ (by simp) (by simp) (by simp only; omega) (by simp)

theorem beg_ok {c : List St} {who snap : Int} (h : mayB c who snap = true) : CodeOk c ∧ InvS c (begT c who snap) ∧ (begT c who snap).snap = snap := by
  have hc : codeC c = 0 := by simp only [mayB, Bool.and_eq_true, decide_eq_true_eq] at h; exact h.1.1.1
  have ho := CodeOk.of hc
  obtain ⟨g1, g2, _⟩ := setT_ok (new_ok ho who snap) rfl
  have e : begT c who snap = setT c.length (newT who snap) := by simp [begT, h]
  rw [e]
  exact ⟨ho, g1, g2⟩

theorem zero_same : CSpec Tryz.prog 18 [dT zeroT, dT zeroT] (.bool true) := c_r11_Same zeroT (by decide) (by decide) (by decide) (by decide) (by decide) (by decide) (by decide)

theorem c_AttemptTells (c : List St) (who snap : Int) (l : List Wo) (hcl : c.length ≤ 9223372036854775807) (hll : l.length ≤ 9223372036854775807) :
    CSpec Tryz.prog 3 [.vec (c.map dS), .int .i64 who, .int .i64 snap, .vec (l.map dWo)] (.bool true) := by
  refine CSpec.of_awp envOf_ok hmix Tryz.func3 rfl (fun args w => Tryz.call3 args w) (by simp [Tryz.f3]) ?_
  simp only [Tryz.f3]
  simp (maxSteps := 2000000) -implicitDefEqProofs only [zz, evop, ev, ofVal, tget, tput, ok, V.isUndef, initT, Ch.on, calleeOf, withArgs, ↓reduceIte, reduceCtorEq, Nat.reduceLT, Nat.reduceAdd]
  refine acall_flat (by first | rfl | (simp only [xports, xport, hget]; rfl)) (c_law08_Small c hcl) rfl ?_
  try simp (maxSteps := 2000000) -implicitDefEqProofs only [zz, evop, ev, ofVal, tget, tput, ok, V.isUndef, intBin, guardOf, Ch.on, calleeOf, withArgs, told, ↓reduceIte, reduceCtorEq, Nat.reduceLT, Nat.reduceEqDiff, nilTest]
  by_cases hs : smallC c < 0
  · simp (maxSteps := 2000000) -implicitDefEqProofs only [zz, ↓reduceIte, hs]
    refine acall_flat (by first | rfl | (simp only [xports, xport, hget]; rfl)) (c_awake11) rfl ?_
    try simp (maxSteps := 2000000) -implicitDefEqProofs only [zz, evop, ev, tget, tput, ok, V.isUndef, Ch.on, xport, resOf, resV, resVs, ↓reduceIte, Nat.reduceLT]
  simp (maxSteps := 2000000) -implicitDefEqProofs only [zz, ↓reduceIte, hs]
  refine acall_flat (by first | rfl | (simp only [xports, xport, hget]; rfl)) (c_law11_small l hll) rfl ?_
  try simp (maxSteps := 2000000) -implicitDefEqProofs only [zz, evop, ev, tget, tput, ok, V.isUndef, guardOf, Ch.on, calleeOf, withArgs, told, ↓reduceIte, reduceCtorEq, Nat.reduceLT, Nat.reduceEqDiff]
  cases hsl : smallL l with
  | false =>
    simp (maxSteps := 2000000) -implicitDefEqProofs only [zz, ↓reduceIte]
    refine acall_flat (by first | rfl | (simp only [xports, xport, hget]; rfl)) (c_awake11) rfl ?_
    try simp (maxSteps := 2000000) -implicitDefEqProofs only [zz, evop, ev, tget, tput, ok, V.isUndef, Ch.on, xport, resOf, resV, resVs, ↓reduceIte, Nat.reduceLT]
  | true =>
  obtain ⟨s1, s2⟩ := smallC_0 hs
  obtain ⟨s3, s4⟩ := smallL_t hsl
  have htl : ∀ s ∈ c, s.t.length ≤ 1000000 := fun s h => by have := s2 s h; omega
  have hb := c_attempt_Begin c who snap (by omega) htl
  have hf := c_law08_Ref c (by omega) htl
  have hb2 := c_r11_Begin c who snap (by omega) htl
  cases hB : mayB c who snap with
  | false =>
    have hz : begT c who snap = zeroT := by simp [begT, hB]
    rw [hz, hB] at hb hb2
    rw [if_neg (by decide)] at hb
    have hr := c_law11_Ref zeroT (by decide)
    have hsm := zero_same
    simp only [dT, tyC, zeroT, List.map_nil] at hb hb2 hr hsm
    simp (maxSteps := 2000000) -implicitDefEqProofs only [zz, ↓reduceIte]
    refine acall_ice (by first | rfl | (simp only [xports, xport, hget]; rfl)) (hb) ?_
    try simp (maxSteps := 2000000) -implicitDefEqProofs only [zz, zE, evop, ev, tget, tput, ok, V.isUndef, Ch.on, calleeOf, withArgs, tids, tidss, hget, hput, freeze, V.cells, V.one, splice, ↓reduceIte, reduceCtorEq, Nat.reduceLT, Nat.reduceEqDiff, Nat.reduceAdd, Nat.reduceLeDiff]
    refine acall_ice (by first | rfl | (simp only [xports, xport, hget]; rfl)) (hf) ?_
    try simp (maxSteps := 2000000) -implicitDefEqProofs only [zz, evop, ev, tget, tput, ok, V.isUndef, Ch.on, calleeOf, withArgs, tids, tidss, freeze, ↓reduceIte, reduceCtorEq, Nat.reduceLT, Nat.reduceEqDiff]
    refine acall_ice (by first | rfl | (simp only [xports, xport, hget]; rfl)) (hb2) ?_
    try simp (maxSteps := 2000000) -implicitDefEqProofs only [zz, zE, evop, ev, tget, tput, ok, V.isUndef, Ch.on, tids, tidss, hget, hput, freeze, V.cells, V.one, splice, ↓reduceIte, Nat.reduceLT, Nat.reduceEqDiff, Nat.reduceAdd, Nat.reduceLeDiff]
    refine wdraw_plan [⟨[], false, [45], [], false⟩, ⟨[0], false, [45], [], false⟩, ⟨[], false, [43, 44], [0, 1], false⟩, ⟨[0, 1, 2], true, [], [], false⟩, ⟨[0, 1, 2, 3], true, [], [], false⟩, ⟨[0, 1, 2, 3, 4], false, [50], [], false⟩, ⟨[0, 1, 2, 3, 4, 5], false, [50], [], false⟩, ⟨[0, 1, 2, 3, 4], false, [48, 49], [5, 6], false⟩, ⟨[0, 1, 2, 3, 4, 5, 6, 7], false, [], [], false⟩, ⟨[0, 1, 2, 3, 4, 5, 6, 7, 8], false, [], [], false⟩, ⟨[0, 1, 2, 3, 4, 5, 6, 7, 8, 9], true, [], [], false⟩, ⟨[0, 1, 2, 3, 4, 5, 6, 7, 8, 9, 10], true, [], [], false⟩, ⟨[0, 1, 2, 3, 4, 5, 6, 7, 8, 9, 10, 11], false, [], [], false⟩, ⟨[0, 1, 2, 3, 4, 5, 6, 7, 8, 9, 10, 11, 12], false, [], [], false⟩, ⟨[0, 1, 2, 3, 4, 5, 6, 7, 8, 9, 10, 11, 12, 13], false, [], [], false⟩, ⟨[0, 1, 2, 3, 4, 5, 6, 7, 8, 9, 10, 11, 12, 13, 14], false, [], [], false⟩, ⟨[0, 1, 2, 3, 4, 5, 6, 7, 8, 9, 10, 11, 12, 13, 14, 15], false, [], [], false⟩, ⟨[0, 1, 2, 3, 4, 5, 6, 7, 8, 9, 10, 11, 12, 13, 14, 15, 16], false, [], [], false⟩, ⟨[0, 1, 2, 3, 4, 5, 6, 7, 8, 9, 10, 11, 12, 13, 14, 15, 16, 17], true, [], [], false⟩] (by decide) ?_
    simp (maxSteps := 2000000) -implicitDefEqProofs only [zz, zE, evop, ev, ofVal, tget, tput, ok, V.isUndef, intBin, guardOf, Ch.on, calleeOf, withArgs, told, xport, hget, hput, V.cells, V.isAgg, resOf, resV, resVs, ↓reduceIte, Nat.reduceLT, Nat.reduceEqDiff, Nat.reduceAdd, Nat.reduceSub, Nat.reduceLeDiff]
    have e10 : ((1 : Int) == 0) = false := rfl
    have e11 : ((1 : Int) != 1) = false := rfl
    have e12 : (false != false) = false := rfl
    simp (maxSteps := 2000000) -implicitDefEqProofs only [zz, ↓reduceIte, e10]
    refine dcall_still (by first | rfl | (simp only [xports, xport, hget]; rfl)) (hr) rfl ?_
    try simp (maxSteps := 2000000) -implicitDefEqProofs only [zz]
    refine dcall_still (by first | rfl | (simp only [xports, xport, hget]; rfl)) (hsm) rfl ?_
    try simp (maxSteps := 2000000) -implicitDefEqProofs only [zz, zE, evop, ev, ofVal, tget, tput, ok, V.isUndef, intBin, guardOf, Ch.on, told, hput, V.cells, V.isAgg, V.clo, clos, sliceOf, lenOf, ↓reduceIte, reduceCtorEq, Nat.reduceLT, Nat.reduceEqDiff, Nat.reduceAdd, Nat.reduceSub]
    try skip
    refine wloop_count l.length (fun i => [(64, .d (.int .i64 i)), (63, .d (.int .i64 l.length)), (62, .d (.vec (l.map dWo))), (12, .d (.bool false))]) (fun _ => []) (fun _ => True) trivial (Weak.trims 0 rfl (by simp [tget, V.lower]) (by simp)) (fun i hi _ => ?_) (fun _ => ?_)
    · have hx : l[i]? = some l[i] := List.getElem?_eq_getElem hi
      have h' : ((i : Int) < (l.length : Int)) := by omega
      simp (maxSteps := 2000000) -implicitDefEqProofs only [zz, zE, evop, ev, tget, tput, ok, V.isUndef, intBin, Ch.on, calleeOf, withArgs, told, hget, hput, V.cells, D.cells, V.one, loadD, splice, ↓reduceIte, reduceCtorEq, Nat.reduceLT, Nat.reduceEqDiff, Nat.reduceAdd, Nat.reduceLeDiff, nilTest, h', dWo, List.getElem?_map, hx, Option.map_some, Int.natCast_nonneg]
      refine acall_flat (by first | rfl | (simp only [xports, xport, hget]; rfl)) (c_awake11) rfl ?_
      try simp (maxSteps := 2000000) -implicitDefEqProofs only [zz, evop, ev, tget, tput, ok, V.isUndef, Ch.on, xport, resOf, resV, resVs, ↓reduceIte, Nat.reduceLT]
    · have h' : ¬ ((l.length : Int) < (l.length : Int)) := by omega
      simp (maxSteps := 2000000) -implicitDefEqProofs only [zz, evop, ev, tget, tput, intBin, Ch.on, calleeOf, withArgs, told, ↓reduceIte, Nat.reduceLT, Nat.reduceEqDiff, nilTest, h']
      refine acall_flat (by first | rfl | (simp only [xports, xport, hget]; rfl)) (c_awake11) rfl ?_
      try simp (maxSteps := 2000000) -implicitDefEqProofs only [zz, evop, ev, tget, tput, ok, V.isUndef, Ch.on, xport, resOf, resV, resVs, ↓reduceIte, Nat.reduceLT]
  | true =>
    obtain ⟨ho, hi0, hsn⟩ := beg_ok hB
    rw [hB] at hb hb2
    rw [if_pos rfl] at hb
    generalize begT c who snap = t0 at hb hb2 hi0
    have hr := c_law11_Ref t0 (by have := hi0.toInvT.lens ho; omega)
    have hsm := same_ok ho hi0.toInvT
    simp only [dT, tyC] at hb hb2 hr hsm
    have e00 : ((0 : Int) == 0) = true := rfl
    have e01 : (true != true) = false := rfl
    try simp (maxSteps := 2000000) -implicitDefEqProofs only [zz, ↓reduceIte]
    refine acall_ice (by first | rfl | (simp only [xports, xport, hget]; rfl)) (hb) ?_
    try simp (maxSteps := 2000000) -implicitDefEqProofs only [zz, zE, evop, ev, tget, tput, ok, V.isUndef, Ch.on, calleeOf, withArgs, tids, tidss, hget, hput, freeze, V.cells, V.one, splice, ↓reduceIte, reduceCtorEq, Nat.reduceLT, Nat.reduceEqDiff, Nat.reduceAdd, Nat.reduceLeDiff]
    refine acall_ice (by first | rfl | (simp only [xports, xport, hget]; rfl)) (hf) ?_
    try simp (maxSteps := 2000000) -implicitDefEqProofs only [zz, evop, ev, tget, tput, ok, V.isUndef, Ch.on, calleeOf, withArgs, tids, tidss, freeze, ↓reduceIte, reduceCtorEq, Nat.reduceLT, Nat.reduceEqDiff]
    refine acall_ice (by first | rfl | (simp only [xports, xport, hget]; rfl)) (hb2) ?_
    try simp (maxSteps := 2000000) -implicitDefEqProofs only [zz, zE, evop, ev, tget, tput, ok, V.isUndef, Ch.on, tids, tidss, hget, hput, freeze, V.cells, V.one, splice, ↓reduceIte, Nat.reduceLT, Nat.reduceEqDiff, Nat.reduceAdd, Nat.reduceLeDiff]
    refine wdraw_plan [⟨[], false, [45], [], false⟩, ⟨[0], false, [45], [], false⟩, ⟨[], false, [43, 44], [0, 1], false⟩, ⟨[0, 1, 2], true, [], [], false⟩, ⟨[0, 1, 2, 3], true, [], [], false⟩, ⟨[0, 1, 2, 3, 4], false, [50], [], false⟩, ⟨[0, 1, 2, 3, 4, 5], false, [50], [], false⟩, ⟨[0, 1, 2, 3, 4], false, [48, 49], [5, 6], false⟩, ⟨[0, 1, 2, 3, 4, 5, 6, 7], false, [], [], false⟩, ⟨[0, 1, 2, 3, 4, 5, 6, 7, 8], false, [], [], false⟩, ⟨[0, 1, 2, 3, 4, 5, 6, 7, 8, 9], true, [], [], false⟩, ⟨[0, 1, 2, 3, 4, 5, 6, 7, 8, 9, 10], true, [], [], false⟩, ⟨[0, 1, 2, 3, 4, 5, 6, 7, 8, 9, 10, 11], false, [], [], false⟩, ⟨[0, 1, 2, 3, 4, 5, 6, 7, 8, 9, 10, 11, 12], false, [], [], false⟩, ⟨[0, 1, 2, 3, 4, 5, 6, 7, 8, 9, 10, 11, 12, 13], false, [], [], false⟩, ⟨[0, 1, 2, 3, 4, 5, 6, 7, 8, 9, 10, 11, 12, 13, 14], false, [], [], false⟩, ⟨[0, 1, 2, 3, 4, 5, 6, 7, 8, 9, 10, 11, 12, 13, 14, 15], false, [], [], false⟩, ⟨[0, 1, 2, 3, 4, 5, 6, 7, 8, 9, 10, 11, 12, 13, 14, 15, 16], false, [], [], false⟩, ⟨[0, 1, 2, 3, 4, 5, 6, 7, 8, 9, 10, 11, 12, 13, 14, 15, 16, 17], true, [], [], false⟩] (by decide) ?_
    simp (maxSteps := 2000000) -implicitDefEqProofs only [zz, zE, evop, ev, ofVal, tget, tput, ok, V.isUndef, intBin, guardOf, Ch.on, calleeOf, withArgs, hget, hput, V.cells, V.isAgg, ↓reduceIte, Nat.reduceLT, Nat.reduceEqDiff, Nat.reduceAdd, Nat.reduceSub, Nat.reduceLeDiff]
    refine dcall_still (by first | rfl | (simp only [xports, xport, hget]; rfl)) (hr) rfl ?_
    try simp (maxSteps := 2000000) -implicitDefEqProofs only [zz]
    refine dcall_still (by first | rfl | (simp only [xports, xport, hget]; rfl)) (hsm) rfl ?_
    try simp (maxSteps := 2000000) -implicitDefEqProofs only [zz, zE, evop, ev, ofVal, tget, tput, ok, V.isUndef, intBin, guardOf, Ch.on, told, xport, hput, V.cells, V.isAgg, V.clo, clos, sliceOf, lenOf, resOf, resV, resVs, ↓reduceIte, reduceCtorEq, Nat.reduceLT, Nat.reduceEqDiff, Nat.reduceAdd, Nat.reduceSub]
    try skip
    refine wloop_ind (σ := Nat × Ty) (fun z => l.length - z.1) (fun z => [(64, .d (.int .i64 z.1)), (63, .d (.int .i64 l.length)), (62, .d (.vec (l.map dWo))), (12, .d (.bool true)), (9, .ptr 0 0 0), (11, .ptr 1 0 0), (0, .d (.vec (c.map dS)))]) (fun z => [bT z.2, bT z.2]) (fun z => z.1 ≤ l.length ∧ InvS c z.2) (0, t0) ⟨Nat.zero_le _, hi0⟩ ?_ ?_
    · exact Weak.trims 2 rfl (by simp [tget, V.lower]) (by simp [bT, Blk.lower, lowerL, V.lower])
    rintro ⟨i, u⟩ ⟨hi, hu⟩
    simp only at hi hu
    rcases Nat.lt_or_ge i l.length with hlt | hge
    · have hx : l[i]? = some l[i] := List.getElem?_eq_getElem hlt
      have h' : ((i : Int) < (l.length : Int)) := by omega
      have hw : IntKind.i64.wrap ((i : Int) + 1) = ((i + 1 : Nat) : Int) := by rw [wrap_in (by omega)]; omega
      obtain ⟨sz1, sz2⟩ := s4 _ (List.getElem_mem hlt)
      have st1 := c_attempt_Step c u l[i].1 l[i].2 ho hu (by omega) htl
      have st2 := c_r11_Step c u l[i].1 l[i].2 ho hu (by omega) (by omega) htl
      have hv := (hu.step ho l[i].1 l[i].2).1
      generalize stepT u c l[i].1 l[i].2 = v at st1 st2 hv
      have hr1 := c_law11_Ref u (by have := hu.toInvT.lens ho; omega)
      have hr2 := c_law11_Ref v (by have := hv.toInvT.lens ho; omega)
      have sm1 := same_ok ho hu.toInvT
      have sm2 := same_ok ho hv.toInvT
      obtain ⟨o1, o2, o3⟩ := outs_ok ho hv.toInvT
      have o4 := c_law10_Ref (outT v)
      generalize outT v = o at o1 o2 o3 o4
      simp only [dT, tyC, dO, oyC] at st1 st2 hr1 hr2 sm1 sm2 o1 o2 o3 o4
      simp (maxSteps := 2000000) -implicitDefEqProofs only [zz, zE, evop, ev, tget, tput, ok, V.isUndef, intBin, Ch.on, calleeOf, withArgs, told, hget, hput, V.cells, D.cells, V.one, loadD, structAt, Blk.width, splice, ↓reduceIte, reduceCtorEq, Nat.reduceLT, Nat.reduceEqDiff, Nat.reduceAdd, Nat.reduceLeDiff, nilTest, h', bT, dWo, List.getElem?_map, hx, Option.map_some, Int.natCast_nonneg]
      refine acall_ice (by first | rfl | (simp only [xports, xport, hget]; rfl)) (st1) ?_
      try simp (maxSteps := 2000000) -implicitDefEqProofs only [zz, zE, evop, ev, tget, tput, ok, V.isUndef, Ch.on, tids, tidss, hget, hput, freeze, V.cells, V.one, splice, ↓reduceIte, Nat.reduceLT, Nat.reduceEqDiff, Nat.reduceAdd, Nat.reduceLeDiff]
      refine wdraw_plan [⟨[], false, [17, 82, 83, 84, 85, 86, 87], [], false⟩, ⟨[], false, [17, 81, 84, 85, 86, 87], [0], false⟩, ⟨[1], false, [17, 81, 84, 85, 86, 87], [0], false⟩, ⟨[], false, [17, 81, 82, 83, 86, 87], [0, 1, 2], false⟩, ⟨[3], false, [17, 81, 82, 83, 86, 87], [0, 1, 2], false⟩, ⟨[], false, [17, 81, 82, 83, 84, 85], [0, 1, 2, 3, 4], false⟩, ⟨[5], false, [17, 81, 82, 83, 84, 85], [0, 1, 2, 3, 4], false⟩, ⟨[0, 1, 2, 3, 4, 5, 6], false, [17], [], false⟩, ⟨[0, 1, 2, 3, 4, 5, 6, 7], false, [17], [], false⟩, ⟨[0, 1, 2, 3, 4, 5, 6, 7, 8], false, [17, 90], [], false⟩, ⟨[0, 1, 2, 3, 4, 5, 6, 7, 8], false, [17, 18, 89, 90], [9], true⟩, ⟨[], false, [80, 81, 82, 83, 84, 85, 86, 87, 88, 89, 90], [0, 1, 2, 3, 4, 5, 6, 7, 8, 9, 10], false⟩, ⟨[0, 1, 2, 3, 4, 5, 6, 7, 8, 9, 11], true, [90], [], false⟩, ⟨[0, 1, 2, 3, 4, 5, 6, 7, 8, 9, 10, 11, 12], true, [], [], false⟩] (by decide) ?_
      simp (maxSteps := 2000000) -implicitDefEqProofs only [zz, zE, evop, ev, ofVal, tget, tput, ok, V.isUndef, calleeOf, withArgs, hget, hput, V.cells, D.cells, loadD, structAt, Blk.width, splice, D.over, ↓reduceIte, reduceCtorEq, Nat.reduceLT, Nat.reduceEqDiff, Nat.reduceAdd, Nat.reduceLeDiff]
      refine dcall_still (by first | rfl | (simp only [xports, xport, hget]; rfl)) (hf) rfl ?_
      try simp (maxSteps := 2000000) -implicitDefEqProofs only [zz]
      refine dcall_still (by first | rfl | (simp only [xports, xport, hget]; rfl)) (st2) rfl ?_
      try simp (maxSteps := 2000000) -implicitDefEqProofs only [zz, evop, ev, tget, tput, ok, V.isUndef, Ch.on, hput, V.one, ↓reduceIte, Nat.reduceLT, Nat.reduceEqDiff, Nat.reduceAdd]
      have e10 : ((1 : Int) == 0) = false := rfl
      have e11 : ((1 : Int) != 1) = false := rfl
      have e12 : (false != false) = false := rfl
      cases hm : mayT u l[i].1 l[i].2
      · refine wdraw_plan [⟨[], false, [93], [], false⟩, ⟨[0], false, [93], [], false⟩, ⟨[], false, [91, 92], [0, 1], false⟩, ⟨[0, 1, 2], true, [], [], false⟩, ⟨[0, 1, 2, 3], true, [], [], false⟩, ⟨[0, 1, 2, 3, 4], false, [], [], false⟩, ⟨[0, 1, 2, 3, 4, 5], false, [], [], false⟩, ⟨[0, 1, 2, 3, 4, 5, 6], false, [], [], false⟩, ⟨[0, 1, 2, 3, 4, 5, 6, 7], false, [], [], false⟩, ⟨[0, 1, 2, 3, 4, 5, 6, 7, 8], false, [], [], false⟩, ⟨[0, 1, 2, 3, 4, 5, 6, 7, 8, 9], false, [], [], false⟩, ⟨[0, 1, 2, 3, 4, 5, 6, 7, 8, 9, 10], true, [], [], false⟩, ⟨[0, 1, 2, 3, 4, 5, 6, 7, 8, 9, 10, 11], true, [], [], false⟩, ⟨[0, 1, 2, 3, 4, 5, 6, 7, 8, 9, 10, 11, 12], false, [106], [], false⟩, ⟨[0, 1, 2, 3, 4, 5, 6, 7, 8, 9, 10, 11, 12, 13], false, [106], [], false⟩, ⟨[0, 1, 2, 3, 4, 5, 6, 7, 8, 9, 10, 11, 12], false, [104, 105], [13, 14], false⟩, ⟨[0, 1, 2, 3, 4, 5, 6, 7, 8, 9, 10, 11, 12, 13, 14, 15], false, [], [], false⟩, ⟨[0, 1, 2, 3, 4, 5, 6, 7, 8, 9, 10, 11, 12, 13, 14, 15, 16], false, [], [], false⟩, ⟨[0, 1, 2, 3, 4, 5, 6, 7, 8, 9, 10, 11, 12, 13, 14, 15, 16, 17], true, [], [], false⟩, ⟨[0, 1, 2, 3, 4, 5, 6, 7, 8, 9, 10, 11, 12, 13, 14, 15, 16, 17, 18], true, [], [], false⟩, ⟨[0, 1, 2, 3, 4, 5, 6, 7, 8, 9, 10, 11, 12, 13, 14, 15, 16, 17, 18, 19], false, [113], [], false⟩, ⟨[0, 1, 2, 3, 4, 5, 6, 7, 8, 9, 10, 11, 12, 13, 14, 15, 16, 17, 18, 19, 20], false, [113], [], false⟩, ⟨[0, 1, 2, 3, 4, 5, 6, 7, 8, 9, 10, 11, 12, 13, 14, 15, 16, 17, 18, 19], false, [111, 112], [20, 21], false⟩, ⟨[0, 1, 2, 3, 4, 5, 6, 7, 8, 9, 10, 11, 12, 13, 14, 15, 16, 17, 18, 19, 20, 21, 22], false, [], [], false⟩, ⟨[0, 1, 2, 3, 4, 5, 6, 7, 8, 9, 10, 11, 12, 13, 14, 15, 16, 17, 18, 19, 20, 21, 22, 23], false, [], [], false⟩, ⟨[0, 1, 2, 3, 4, 5, 6, 7, 8, 9, 10, 11, 12, 13, 14, 15, 16, 17, 18, 19, 20, 21, 22, 23, 24], true, [], [], false⟩] (by decide) ?_
        simp (maxSteps := 2000000) -implicitDefEqProofs only [zz, zE, evop, ev, ofVal, tget, tput, ok, V.isUndef, intBin, guardOf, Ch.on, calleeOf, withArgs, hget, hput, V.cells, V.isAgg, V.clo, clos, ↓reduceIte, Nat.reduceLT, Nat.reduceEqDiff, Nat.reduceAdd, Nat.reduceSub, Nat.reduceLeDiff, e10]
        refine dcall_still (by first | rfl | (simp only [xports, xport, hget]; rfl)) (hr2) rfl ?_
        try simp (maxSteps := 2000000) -implicitDefEqProofs only [zz]
        refine dcall_still (by first | rfl | (simp only [xports, xport, hget]; rfl)) (sm2) rfl ?_
        try simp (maxSteps := 2000000) -implicitDefEqProofs only [zz, zE, evop, ev, ofVal, tget, tput, ok, V.isUndef, guardOf, Ch.on, calleeOf, withArgs, hget, hput, ↓reduceIte, Nat.reduceLT, Nat.reduceEqDiff, Nat.reduceAdd, Nat.reduceSub, Nat.reduceLeDiff]
        try skip
        refine dcall_still (by first | rfl | (simp only [xports, xport, hget]; rfl)) (hr1) rfl ?_
        try simp (maxSteps := 2000000) -implicitDefEqProofs only [zz]
        refine dcall_still (by first | rfl | (simp only [xports, xport, hget]; rfl)) (sm1) rfl ?_
        try simp (maxSteps := 2000000) -implicitDefEqProofs only [zz, ev, tget, tput, Ch.on, told, ↓reduceIte, Nat.reduceLT, Nat.reduceAdd]
        try skip
        refine wdraw_weak (Weak.sealed (T' := [(64, .d (.int .i64 i)), (63, .d (.int .i64 l.length)), (62, .d (.vec (l.map dWo))), (12, .d (.bool true)), (0, .d (.vec (c.map dS))), (9, .ptr 0 0 0), (11, .ptr 1 0 0), (15, .d (.imm (dT v) 0)), (17, .d (.imm (dT v) 0))]) [3, 15] (by simp [tget, sealF, xport, xports, tids, tidss, hget, dT, tyC])) [⟨[], false, [118], [], false⟩, ⟨[], false, [117, 118], [0], true⟩, ⟨[0], true, [118], [], false⟩, ⟨[0, 1, 2], true, [], [], false⟩] (by decide) ?_
        simp only [sealH, AM.freeze, hput, hget, Blk.ice, List.map_cons, List.map_nil, sealB, sealF, List.mem_cons, dT, tyC]
        simp (maxSteps := 2000000) -implicitDefEqProofs only [zz, zE, evop, ev, tget, tput, ok, Ch.on, hget, hput, V.cells, D.cells, V.one, loadD, splice, ↓reduceIte, reduceCtorEq, Nat.reduceLT, Nat.reduceEqDiff, Nat.reduceAdd, Nat.reduceLeDiff]
        refine wdraw_plan [⟨[], false, [122], [], false⟩, ⟨[0], false, [122], [], false⟩, ⟨[0, 1], false, [122], [], false⟩, ⟨[], false, [119, 120, 121], [0, 1, 2], false⟩, ⟨[0, 1, 2, 3], true, [], [], false⟩, ⟨[0, 1, 2, 3, 4], true, [], [], false⟩, ⟨[0, 1, 2, 3, 4, 5], true, [], [], false⟩] (by decide) ?_
        simp (maxSteps := 2000000) -implicitDefEqProofs only [zz, zE, evop, ev, ofVal, tget, tput, ok, V.isUndef, calleeOf, withArgs, hget, hput, ↓reduceIte, reduceCtorEq, Nat.reduceLT, Nat.reduceEqDiff, Nat.reduceAdd, Nat.reduceLeDiff]
        refine dcall_still (by first | rfl | (simp only [xports, xport, hget]; rfl)) (o1) rfl ?_
        try simp (maxSteps := 2000000) -implicitDefEqProofs only [zz]
        refine dcall_still (by first | rfl | (simp only [xports, xport, hget]; rfl)) (o4) rfl ?_
        try skip
        refine acall_ice (by first | rfl | (simp only [xports, xport, hget]; rfl)) (o2) ?_
        try simp (maxSteps := 2000000) -implicitDefEqProofs only [zz, ev, ofVal, tget, tput, V.isUndef, calleeOf, withArgs, tids, tidss, freeze, ↓reduceIte, Nat.reduceLT, Nat.reduceEqDiff, Nat.reduceAdd]
        refine acall_flat (by first | rfl | (simp only [xports, xport, hget]; rfl)) (o3) rfl ?_
        try simp (maxSteps := 2000000) -implicitDefEqProofs only [zz, evop, ev, ofVal, tget, tput, ok, V.isUndef, intBin, Ch.on, told, ↓reduceIte, Nat.reduceLT, Nat.reduceEqDiff, Nat.reduceAdd, nilTest]
        rw [hw]
        exact ⟨(i + 1, v), ⟨hlt, hv⟩, by simp only; omega, Weak.trims 2 rfl (by simp [tget, V.lower]) (by simp [bT, Blk.lower, lowerL, V.lower])⟩
      · refine wdraw_plan [⟨[], false, [93], [], false⟩, ⟨[0], false, [93], [], false⟩, ⟨[], false, [91, 92], [0, 1], false⟩, ⟨[0, 1, 2], true, [], [], false⟩, ⟨[0, 1, 2, 3], true, [], [], false⟩, ⟨[0, 1, 2, 3, 4], false, [], [], false⟩, ⟨[0, 1, 2, 3, 4, 5], false, [], [], false⟩, ⟨[0, 1, 2, 3, 4, 5, 6], false, [], [], false⟩, ⟨[0, 1, 2, 3, 4, 5, 6, 7], false, [], [], false⟩, ⟨[0, 1, 2, 3, 4, 5, 6, 7, 8], false, [], [], false⟩, ⟨[0, 1, 2, 3, 4, 5, 6, 7, 8, 9], false, [], [], false⟩, ⟨[0, 1, 2, 3, 4, 5, 6, 7, 8, 9, 10], true, [], [], false⟩, ⟨[0, 1, 2, 3, 4, 5, 6, 7, 8, 9, 10, 11], true, [], [], false⟩, ⟨[0, 1, 2, 3, 4, 5, 6, 7, 8, 9, 10, 11, 12], false, [106], [], false⟩, ⟨[0, 1, 2, 3, 4, 5, 6, 7, 8, 9, 10, 11, 12, 13], false, [106], [], false⟩, ⟨[0, 1, 2, 3, 4, 5, 6, 7, 8, 9, 10, 11, 12], false, [104, 105], [13, 14], false⟩, ⟨[0, 1, 2, 3, 4, 5, 6, 7, 8, 9, 10, 11, 12, 13, 14, 15], false, [], [], false⟩, ⟨[0, 1, 2, 3, 4, 5, 6, 7, 8, 9, 10, 11, 12, 13, 14, 15, 16], false, [], [], false⟩, ⟨[0, 1, 2, 3, 4, 5, 6, 7, 8, 9, 10, 11, 12, 13, 14, 15, 16, 17], true, [], [], false⟩, ⟨[0, 1, 2, 3, 4, 5, 6, 7, 8, 9, 10, 11, 12, 13, 14, 15, 16, 17, 18], true, [], [], false⟩, ⟨[0, 1, 2, 3, 4, 5, 6, 7, 8, 9, 10, 11, 12, 13, 14, 15, 16, 17, 18, 19], false, [113], [], false⟩, ⟨[0, 1, 2, 3, 4, 5, 6, 7, 8, 9, 10, 11, 12, 13, 14, 15, 16, 17, 18, 19, 20], false, [113], [], false⟩, ⟨[0, 1, 2, 3, 4, 5, 6, 7, 8, 9, 10, 11, 12, 13, 14, 15, 16, 17, 18, 19], false, [111, 112], [20, 21], false⟩, ⟨[0, 1, 2, 3, 4, 5, 6, 7, 8, 9, 10, 11, 12, 13, 14, 15, 16, 17, 18, 19, 20, 21, 22], false, [], [], false⟩, ⟨[0, 1, 2, 3, 4, 5, 6, 7, 8, 9, 10, 11, 12, 13, 14, 15, 16, 17, 18, 19, 20, 21, 22, 23], false, [], [], false⟩, ⟨[0, 1, 2, 3, 4, 5, 6, 7, 8, 9, 10, 11, 12, 13, 14, 15, 16, 17, 18, 19, 20, 21, 22, 23, 24], true, [], [], false⟩] (by decide) ?_
        simp (maxSteps := 2000000) -implicitDefEqProofs only [zz, zE, evop, ev, ofVal, tget, tput, ok, V.isUndef, intBin, guardOf, Ch.on, calleeOf, withArgs, told, xport, hget, hput, V.cells, V.isAgg, V.clo, clos, resOf, resV, resVs, ↓reduceIte, Nat.reduceLT, Nat.reduceEqDiff, Nat.reduceAdd, Nat.reduceSub, Nat.reduceLeDiff]
        refine dcall_still (by first | rfl | (simp only [xports, xport, hget]; rfl)) (hr2) rfl ?_
        try simp (maxSteps := 2000000) -implicitDefEqProofs only [zz]
        refine dcall_still (by first | rfl | (simp only [xports, xport, hget]; rfl)) (sm2) rfl ?_
        try simp (maxSteps := 2000000) -implicitDefEqProofs only [zz, zE, evop, ev, ofVal, tget, tput, ok, V.isUndef, guardOf, Ch.on, calleeOf, withArgs, hget, hput, ↓reduceIte, Nat.reduceLT, Nat.reduceEqDiff, Nat.reduceAdd, Nat.reduceSub, Nat.reduceLeDiff]
        try skip
        refine dcall_still (by first | rfl | (simp only [xports, xport, hget]; rfl)) (hr1) rfl ?_
        try simp (maxSteps := 2000000) -implicitDefEqProofs only [zz]
        refine dcall_still (by first | rfl | (simp only [xports, xport, hget]; rfl)) (sm1) rfl ?_
        try simp (maxSteps := 2000000) -implicitDefEqProofs only [zz, ev, tget, tput, Ch.on, told, ↓reduceIte, Nat.reduceLT, Nat.reduceAdd]
        try skip
        refine wdraw_weak (Weak.sealed (T' := [(64, .d (.int .i64 i)), (63, .d (.int .i64 l.length)), (62, .d (.vec (l.map dWo))), (12, .d (.bool true)), (0, .d (.vec (c.map dS))), (9, .ptr 0 0 0), (11, .ptr 1 0 0), (15, .d (.imm (dT v) 0)), (17, .d (.imm (dT v) 0))]) [3, 15] (by simp [tget, sealF, xport, xports, tids, tidss, hget, dT, tyC])) [⟨[], false, [118], [], false⟩, ⟨[], false, [117, 118], [0], true⟩, ⟨[0], true, [118], [], false⟩, ⟨[0, 1, 2], true, [], [], false⟩] (by decide) ?_
        simp only [sealH, AM.freeze, hput, hget, Blk.ice, List.map_cons, List.map_nil, sealB, sealF, List.mem_cons, dT, tyC]
        simp (maxSteps := 2000000) -implicitDefEqProofs only [zz, zE, evop, ev, tget, tput, ok, Ch.on, hget, hput, V.cells, D.cells, V.one, loadD, splice, ↓reduceIte, reduceCtorEq, Nat.reduceLT, Nat.reduceEqDiff, Nat.reduceAdd, Nat.reduceLeDiff]
        refine wdraw_plan [⟨[], false, [122], [], false⟩, ⟨[0], false, [122], [], false⟩, ⟨[0, 1], false, [122], [], false⟩, ⟨[], false, [119, 120, 121], [0, 1, 2], false⟩, ⟨[0, 1, 2, 3], true, [], [], false⟩, ⟨[0, 1, 2, 3, 4], true, [], [], false⟩, ⟨[0, 1, 2, 3, 4, 5], true, [], [], false⟩] (by decide) ?_
        simp (maxSteps := 2000000) -implicitDefEqProofs only [zz, zE, evop, ev, ofVal, tget, tput, ok, V.isUndef, calleeOf, withArgs, hget, hput, ↓reduceIte, reduceCtorEq, Nat.reduceLT, Nat.reduceEqDiff, Nat.reduceAdd, Nat.reduceLeDiff]
        refine dcall_still (by first | rfl | (simp only [xports, xport, hget]; rfl)) (o1) rfl ?_
        try simp (maxSteps := 2000000) -implicitDefEqProofs only [zz]
        refine dcall_still (by first | rfl | (simp only [xports, xport, hget]; rfl)) (o4) rfl ?_
        try skip
        refine acall_ice (by first | rfl | (simp only [xports, xport, hget]; rfl)) (o2) ?_
        try simp (maxSteps := 2000000) -implicitDefEqProofs only [zz, ev, ofVal, tget, tput, V.isUndef, calleeOf, withArgs, tids, tidss, freeze, ↓reduceIte, Nat.reduceLT, Nat.reduceEqDiff, Nat.reduceAdd]
        refine acall_flat (by first | rfl | (simp only [xports, xport, hget]; rfl)) (o3) rfl ?_
        try simp (maxSteps := 2000000) -implicitDefEqProofs only [zz, evop, ev, ofVal, tget, tput, ok, V.isUndef, intBin, Ch.on, told, ↓reduceIte, Nat.reduceLT, Nat.reduceEqDiff, Nat.reduceAdd, nilTest]
        rw [hw]
        exact ⟨(i + 1, v), ⟨hlt, hv⟩, by simp only; omega, Weak.trims 2 rfl (by simp [tget, V.lower]) (by simp [bT, Blk.lower, lowerL, V.lower])⟩
    · have h' : ¬ ((i : Int) < (l.length : Int)) := by omega
      simp (maxSteps := 2000000) -implicitDefEqProofs only [zz, evop, ev, tget, tput, intBin, Ch.on, calleeOf, withArgs, told, ↓reduceIte, Nat.reduceLT, Nat.reduceEqDiff, nilTest, h']
      refine acall_flat (by first | rfl | (simp only [xports, xport, hget]; rfl)) (c_awake11) rfl ?_
      try simp (maxSteps := 2000000) -implicitDefEqProofs only [zz, evop, ev, tget, tput, ok, V.isUndef, Ch.on, xport, resOf, resV, resVs, ↓reduceIte, Nat.reduceLT]
end Go.Proofs.YtjhfpabldidlgaaGreat.AM

/- Cells among a law's parameters. -/
set_option linter.all false
set_option maxRecDepth 100000
namespace Go.Proofs.YtjhfpabldidlgaaGreat.AM
open Go Go.RowKit

theorem sh_bool {P : Program} {n t : Nat} {ds : List D} (ht : P.underlying t = some .bool) (h : Sh P (n + 1) t ds) : ∃ b, ds = [.bool b] := by
  simp only [Sh, ht] at h
  obtain ⟨b, rfl⟩ := h
  exact ⟨b, rfl⟩

theorem shE_C {n : Nat} {d : D} (h : ShE Tryz.prog (n + 2) 66 d) : ∃ w : Bool × Int, d = dC w ∧ True := by
  obtain ⟨ds, h1, rfl⟩ := h
  simp only [Sh, Tryz.underlying66, ShF] at h1
  obtain ⟨p, q, rfl, hp, p2, q2, rfl, hp2, rfl⟩ := h1
  obtain ⟨x, rfl⟩ := sh_bool (n := n) Tryz.underlying4 hp
  obtain ⟨y, rfl, _⟩ := sh_int (n := n) Tryz.underlying3 hp2
  exact ⟨(x, y), by simp [oneD, Tryz.underlying66, dC], trivial⟩

end Go.Proofs.YtjhfpabldidlgaaGreat.AM

/- Codes and worlds among a law's parameters. -/
set_option linter.all false
set_option maxRecDepth 100000
namespace Go.Proofs.YtjhfpabldidlgaaGreat.AM
open Go Go.RowKit

theorem shE_op {n : Nat} {d : D} (h : ShE Tryz.prog (n + 2) 118 d) : ∃ w : Int × Int, d = dW w ∧ True := by
  obtain ⟨ds, h1, rfl⟩ := h
  simp only [Sh, Tryz.underlying118, ShF] at h1
  obtain ⟨p, q, rfl, hp, p2, q2, rfl, hp2, rfl⟩ := h1
  obtain ⟨x, rfl, _⟩ := sh_int (n := n) Tryz.underlying3 hp
  obtain ⟨y, rfl, _⟩ := sh_int (n := n) Tryz.underlying3 hp2
  exact ⟨(x, y), by simp [oneD, Tryz.underlying118, dW], trivial⟩

theorem shE_St {n : Nat} {d : D} (h : ShE Tryz.prog (n + 4) 71 d) : ∃ w : St, d = dS w ∧ True := by
  obtain ⟨ds, h1, rfl⟩ := h
  simp only [Sh, Tryz.underlying71, ShF] at h1
  obtain ⟨p, q, rfl, hp, p2, q2, rfl, hp2, p3, q3, rfl, hp3, p4, q4, rfl, hp4, rfl⟩ := h1
  obtain ⟨x, rfl, _⟩ := sh_int (n := n + 2) Tryz.underlying3 (by simpa only [Sh] using hp)
  obtain ⟨y, rfl, _⟩ := sh_int (n := n + 2) Tryz.underlying3 (by simpa only [Sh] using hp2)
  obtain ⟨z, rfl, _⟩ := sh_int (n := n + 2) Tryz.underlying3 (by simpa only [Sh] using hp3)
  obtain ⟨ts, rfl, hl, _⟩ := sh_list (n := n + 2) Tryz.underlying69 (fun d h => shE_op (n := n) h) (by simpa only [Sh] using hp4)
  exact ⟨⟨x, y, z, ts⟩, by simp [oneD, Tryz.underlying71, dS], trivial⟩

theorem shE_Code {n : Nat} {d : D} (h : ShE Tryz.prog (n + 5) 22 d) : ∃ c : List St, d = .vec (c.map dS) ∧ c.length ≤ maxLen ∧ True := by
  obtain ⟨ds, h1, rfl⟩ := h
  obtain ⟨xs, rfl, hl, _⟩ := sh_list Tryz.underlying22 (fun d h => shE_St (n := n) h) h1
  exact ⟨xs, by simp [oneD, Tryz.underlying22], hl, trivial⟩

theorem shE_R {n : Nat} {d : D} (h : ShE Tryz.prog (n + 2) 68 d) : ∃ w : Int × Int, d = dW w ∧ True := by
  obtain ⟨ds, h1, rfl⟩ := h
  simp only [Sh, Tryz.underlying68, ShF] at h1
  obtain ⟨p, q, rfl, hp, p2, q2, rfl, hp2, rfl⟩ := h1
  obtain ⟨x, rfl, _⟩ := sh_int (n := n) Tryz.underlying3 hp
  obtain ⟨y, rfl, _⟩ := sh_int (n := n) Tryz.underlying3 hp2
  exact ⟨(x, y), by simp [oneD, Tryz.underlying68, dW], trivial⟩

theorem shE_Wo {n : Nat} {d : D} (h : ShE Tryz.prog (n + 4) 51 d) : ∃ w : Wo, d = dWo w ∧ True := by
  obtain ⟨ds, h1, rfl⟩ := h
  simp only [Sh, Tryz.underlying51, ShF] at h1
  obtain ⟨p, q, rfl, hp, p2, q2, rfl, hp2, rfl⟩ := h1
  obtain ⟨xs, rfl, hl, _⟩ := sh_list (n := n + 2) Tryz.underlying48 (fun d h => shE_C (n := n) h) (by simpa only [Sh] using hp)
  obtain ⟨ys, rfl, hl2, _⟩ := sh_list (n := n + 2) Tryz.underlying49 (fun d h => shE_R (n := n) h) (by simpa only [Sh] using hp2)
  exact ⟨(xs, ys), by simp [oneD, Tryz.underlying51, dWo], trivial⟩

theorem shE_Wos {n : Nat} {d : D} (h : ShE Tryz.prog (n + 5) 23 d) : ∃ l : List Wo, d = .vec (l.map dWo) ∧ l.length ≤ maxLen ∧ True := by
  obtain ⟨ds, h1, rfl⟩ := h
  obtain ⟨xs, rfl, hl, _⟩ := sh_list Tryz.underlying23 (fun d h => shE_Wo (n := n) h) h1
  exact ⟨xs, by simp [oneD, Tryz.underlying23], hl, trivial⟩
end Go.Proofs.YtjhfpabldidlgaaGreat.AM
