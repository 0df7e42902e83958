/- The texts Gg, Gj, Gl, As, Fu, Ah, Aj, At, Ai, Ag, Ak, Al, Au, Av, Aw, Tl, Ap, Aq, Ar, joined. -/
import Derived.Test.YtjhfpabldidlgaaGreatJA4

/- The stable sort of up to 39 writes; writes.Last. -/
set_option linter.all false
set_option maxRecDepth 100000
set_option maxHeartbeats 4000000
namespace Go.Proofs.YtjhfpabldidlgaaGreat.AM
open Go Go.RowKit

theorem sortPart_len (lt : Int × Int → Int × Int → Bool) (ws : List (Int × Int)) {a b : Nat} (hab : a ≤ b) (hb : b ≤ ws.length) : (sortPart lt ws a b).length = ws.length := by
  simp [sortPart, isort_length]; omega

theorem r_stable_two (ws : List (Int × Int)) (hl : 20 ≤ ws.length) (hl2 : ws.length < 40) (f : Nat) (c : Int × Int → Int × Int → Int) (hc : ∀ x y, CSpec Tryz.prog f [dW x, dW y] (.int .i64 (c x y)))
    (hnt : ∀ x y z, lts c x y = false → lts c y z = false → lts c x z = false) (has : ∀ x y, lts c x y = true → lts c y x = false) (hir : ∀ x, lts c x x = false) :
    RSpec Tryz.prog 185 [.own 0 0 ws.length, .d (.int .i64 ws.length), .func (f, 0) []] [.dat false 2 (ws.map dW)] (.tuple []) [.dat false 2 ((isort (lts c) ws).map dW)] := by
  obtain ⟨w1, hw1⟩ : ∃ w1, w1 = sortPart (lts c) ws 0 20 := ⟨_, rfl⟩
  obtain ⟨w2, hw2⟩ : ∃ w2, w2 = sortPart (lts c) w1 20 ws.length := ⟨_, rfl⟩
  have l1 : w1.length = ws.length := by rw [hw1]; exact sortPart_len _ _ (by omega) hl
  have l2 : w2.length = ws.length := by rw [hw2]; rw [sortPart_len _ _ (by omega) (by omega)]; exact l1
  have e1 : w1 = isort (lts c) (ws.take 20) ++ ws.drop 20 := by rw [hw1]; simp [sortPart]
  have e2 : w2 = isort (lts c) (ws.take 20) ++ isort (lts c) (ws.drop 20) := by
    have h20 : (isort (lts c) (ws.take 20)).length = 20 := by rw [isort_length]; simp; omega
    have t1 : w1.take 20 = isort (lts c) (ws.take 20) := by rw [e1]; exact List.take_left' h20
    have t2 : w1.drop 20 = ws.drop 20 := by rw [e1]; exact List.drop_left' h20
    have t3 : w1.drop ws.length = [] := List.drop_of_length_le (by omega)
    rw [hw2]; unfold sortPart
    have t4 : (ws.drop 20).take (ws.length - 20) = ws.drop 20 := List.take_of_length_le (by simp)
    rw [t1, t2, t3, t4, List.append_nil]
  have hR1 := r_insertion_W ws 0 20 (by omega) hl (by omega) f c hc
  have hR2 := r_insertion_W w1 20 ws.length (by omega) (by omega) (by omega) f c hc
  rw [← hw1] at hR1
  rw [← hw2, l1] at hR2
  have hR1' : RSpec Tryz.prog 219 [.own 0 0 ws.length, .d (.int .i64 0), .d (.int .i64 20), .func (f, 0) []] [.dat false 2 (ws.map dW)] (.tuple []) [.dat false 2 (w1.map dW)] := hR1
  have hR2' : RSpec Tryz.prog 219 [.own 0 0 ws.length, .d (.int .i64 20), .d (.int .i64 ws.length), .func (f, 0) []] [.dat false 2 (w1.map dW)] (.tuple []) [.dat false 2 (w2.map dW)] := hR2
  have hfin : isort (lts c) ws = mg (lts c) (isort (lts c) (ws.take 20)) (isort (lts c) (ws.drop 20)) := by
    rw [isort_mg hnt has, List.take_append_drop]
  have h40 : ¬ ((40 : Int) ≤ (ws.length : Int)) := by omega
  refine RSpec.of_awp envOf_ok hmix Tryz.func185 rfl (fun args w => Tryz.call185 args w) (by simp [Tryz.f185]) ?_
  simp only [Tryz.f185]
  simp (maxSteps := 2000000) -implicitDefEqProofs only [zz, evop, ev, ofVal, tget, tput, ok, V.isUndef, Ch.on, ↓reduceIte, Nat.reduceLT, Nat.reduceEqDiff, Nat.reduceAdd, initV]
  refine wloop_count 1 (fun i => [(0, .own 0 0 ws.length), (1, .d (.int .i64 ws.length)), (2, .func (f, 0) []), (6, .d (.int .i64 20)), (7, .d (.int .i64 (if i = 0 then 0 else 20))), (8, .d (.int .i64 (if i = 0 then 20 else 40)))]) (fun i => [.dat false 2 ((if i = 0 then ws else w1).map dW)]) (fun i => True) trivial (Weak.sub (by simp [tget])) (fun i hi _ => ?_) (fun _ => ?_)
  · obtain rfl : i = 0 := by omega
    have h' : ((20 : Int) ≤ (ws.length : Int)) := by omega
    have hwa : IntKind.i64.wrap 40 = 40 := wrap_in (by omega)
    simp (maxSteps := 2000000) -implicitDefEqProofs only [zz, evop, ev, tget, tput, ok, V.isUndef, intBin, Ch.on, calleeOf, withArgs, told, ↓reduceIte, reduceCtorEq, Nat.reduceLT, Nat.reduceEqDiff, nilTest, h']
    refine acall_ref [0] (hR1') (by first | rfl | simp [renL, V.ren, frρ, renL_ds]) (by simp) rfl (by simp) (by simp) (by intro j hj; match j, hj with | 0, _ => exact ⟨by simp [hget], rfl⟩) ?_
    try simp (maxSteps := 2000000) -implicitDefEqProofs only [zz, evop, ev, tget, tput, ok, V.isUndef, intBin, Ch.on, hput, ↓reduceIte, reduceCtorEq, Nat.reduceLT, Nat.reduceEqDiff, Int.reduceAdd, nilTest, Blk.ren, V.ren, renL, frameH, putL]
    exact Weak.sub (by simp [tget, hwa])
  · simp (maxSteps := 2000000) -implicitDefEqProofs only [zz, evop, ev, tget, tput, ok, V.isUndef, intBin, Ch.on, calleeOf, withArgs, told, ↓reduceIte, reduceCtorEq, Nat.reduceLT, Nat.reduceEqDiff, nilTest, h40, Nat.one_ne_zero]
    refine acall_ref [0] (hR2') (by first | rfl | simp [renL, V.ren, frρ, renL_ds]) (by simp) rfl (by simp) (by simp) (by intro j hj; match j, hj with | 0, _ => exact ⟨by simp [hget], rfl⟩) ?_
    try simp (maxSteps := 2000000) -implicitDefEqProofs only [zz, tput, hput, ↓reduceIte, Nat.reduceLT, Blk.ren, V.ren, renL, frameH, putL]
    refine wloop_count (if ws.length = 20 then 0 else 1) (fun i => [(0, .own 0 0 ws.length), (1, .d (.int .i64 ws.length)), (2, .func (f, 0) []), (6, .d (.int .i64 (if i = 0 then 20 else 40)))]) (fun i => [.dat false 2 ((if i = 0 then w2 else isort (lts c) ws).map dW)]) (fun i => True) trivial (Weak.sub (by simp [tget])) (fun i hi _ => ?_) (fun _ => ?_)
    · have hgt : 20 < ws.length := by
        split at hi
        · omega
        · omega
      have h20 : ((20 : Int) < (ws.length : Int)) := by omega
      obtain rfl : i = 0 := by split at hi <;> omega
      have hwm : IntKind.i64.wrap 40 = 40 := wrap_in (by omega)
      have hw20 : IntKind.i64.wrap 20 = 20 := wrap_in (by omega)
      have hsym := r_sym c f hc hnt hir (ws.length) [] (isort (lts c) (ws.take 20)) (isort (lts c) (ws.drop 20)) [] ws.length 0 20 ws.length (by simp [isort_length]; omega) (by simp [isort_length]; omega) (by omega) rfl (by simp [isort_length]; omega) (by simp [isort_length]; omega) (by simp [isort_length]; omega) (by simp [isort_length]; omega) (isort_pw hnt has _).srt (isort_pw hnt has _).srt
      simp only [symR, List.nil_append, List.append_nil] at hsym
      rw [← e2, ← hfin] at hsym
      have hsym' : RSpec Tryz.prog 220 [.own 0 0 ws.length, .d (.int .i64 0), .d (.int .i64 20), .d (.int .i64 ws.length), .func (f, 0) []] [.dat false 2 (w2.map dW)] (.tuple []) [.dat false 2 ((isort (lts c) ws).map dW)] := hsym
      simp (maxSteps := 2000000) -implicitDefEqProofs only [zz, evop, ev, ofVal, tget, tput, ok, V.isUndef, intBin, Ch.on, told, ↓reduceIte, reduceCtorEq, Nat.reduceLT, Nat.reduceEqDiff, nilTest, h20]
      refine wloop_count 0 (fun i => [(0, .own 0 0 ws.length), (1, .d (.int .i64 ws.length)), (2, .func (f, 0) []), (6, .d (.int .i64 20)), (7, .d (.int .i64 0)), (8, .d (.int .i64 40))]) (fun i => [.dat false 2 (w2.map dW)]) (fun i => True) trivial (Weak.sub (by simp [tget, hwm])) (fun i hi _ => by omega) (fun _ => ?_)
      simp (maxSteps := 2000000) -implicitDefEqProofs only [zz, evop, ev, tget, tput, ok, V.isUndef, intBin, Ch.on, calleeOf, withArgs, told, ↓reduceIte, reduceCtorEq, Nat.reduceLT, Nat.reduceEqDiff, Int.reduceAdd, nilTest, h40, hw20, h20]
      refine acall_ref [0] (hsym') (by first | rfl | simp [renL, V.ren, frρ, renL_ds]) (by simp) rfl (by simp) (by simp) (by intro j hj; match j, hj with | 0, _ => exact ⟨by simp [hget], rfl⟩) ?_
      try simp (maxSteps := 2000000) -implicitDefEqProofs only [zz, evop, ev, ofVal, tget, tput, ok, V.isUndef, intBin, Ch.on, hput, ↓reduceIte, reduceCtorEq, Nat.reduceLT, Nat.reduceEqDiff, nilTest, Blk.ren, V.ren, renL, frameH, putL]
      exact Weak.sub (by simp [tget, hwm])
    · by_cases h20 : ws.length = 20
      · have hn : ¬ ((20 : Int) < (ws.length : Int)) := by omega
        have hd : ws.drop 20 = [] := List.drop_of_length_le (by omega)
        have hw : w2 = isort (lts c) ws := by
          rw [hfin, e2, hd]; simp [isort, mg_nil']
        rw [if_pos h20]
        simp (maxSteps := 2000000) -implicitDefEqProofs only [zz, evop, ev, tget, tput, ok, V.isUndef, intBin, Ch.on, told, resOf, resVs, ↓reduceIte, reduceCtorEq, Nat.reduceLT, Nat.reduceEqDiff, nilTest, hn]
        rw [hw]
        exact Weak.sub (by simp [tget])
      · have hn : ¬ ((40 : Int) < (ws.length : Int)) := by omega
        rw [if_neg h20]
        simp (maxSteps := 2000000) -implicitDefEqProofs only [zz, evop, ev, tget, tput, ok, V.isUndef, intBin, Ch.on, told, resOf, resVs, ↓reduceIte, reduceCtorEq, Nat.reduceLT, Nat.reduceEqDiff, nilTest, hn, Nat.one_ne_zero]
        exact Weak.sub (by simp [tget])


theorem r_SortStable (ws : List (Int × Int)) (hl : ws.length < 40) (f : Nat) (c : Int × Int → Int × Int → Int) (hc : ∀ x y, CSpec Tryz.prog f [dW x, dW y] (.int .i64 (c x y)))
    (hnt : ∀ x y z, lts c x y = false → lts c y z = false → lts c x z = false) (has : ∀ x y, lts c x y = true → lts c y x = false) (hir : ∀ x, lts c x x = false) :
    RSpec Tryz.prog 130 [.own 0 0 ws.length, .func (f, 0) []] [.dat false 2 (ws.map dW)] (.tuple []) [.dat false 2 ((isort (lts c) ws).map dW)] := by
  rcases Nat.lt_or_ge ws.length 20 with h | h
  · exact r_SortStable_few ws h f c hc
  · have hR := r_stable_two ws h hl f c hc hnt has hir
    refine RSpec.of_awp envOf_ok hmix Tryz.func130 rfl (fun args w => Tryz.call130 args w) (by simp [Tryz.f130]) ?_
    simp only [Tryz.f130]
    simp (maxSteps := 2000000) -implicitDefEqProofs only [zz, zE, evop, ev, tget, tput, ok, V.isUndef, Ch.on, calleeOf, withArgs, hget, sliceOf, lenOf, ↓reduceIte, reduceCtorEq, Nat.reduceLT, Nat.reduceEqDiff, initV]
    refine acall_ref [0] (hR) (by first | rfl | simp [renL, V.ren, frρ, renL_ds]) (by simp) rfl (by simp) (by simp) (by intro j hj; match j, hj with | 0, _ => exact ⟨by simp [hget], rfl⟩) ?_
    try simp (maxSteps := 2000000) -implicitDefEqProofs only [zz, tput, hput, resOf, resVs, ↓reduceIte, Nat.reduceLT, Blk.ren, V.ren, renL, frameH, putL]
    exact Weak.sub (by simp [tget])

theorem cmpI_lt (a b : Int) : (cmpI a b < 0) ↔ a < b := by
  unfold cmpI; split
  · simp_all
  · split <;> simp_all

theorem o_Last (L : Lg) (hr : logR L = true) : FSpec Tryz.prog 77 [dLg L] (.own 0 0 (lastW L.1).length) [.dat false 2 ((lastW L.1 ++ List.replicate (L.1.length - (lastW L.1).length) (0, 0)).map dW)] := by
  have hl := (logR_len hr).1
  refine FSpec.of_awp envOf_ok hmix Tryz.func77 rfl (fun args w => Tryz.call77 args w) (by simp [Tryz.f77]) ?_
  simp only [Tryz.f77]
  simp (maxSteps := 2000000) -implicitDefEqProofs only [zz, zE, evop, ev, ofVal, tget, tput, ok, V.isUndef, initT, Ch.on, calleeOf, withArgs, hget, hput, V.cells, ↓reduceIte, Nat.reduceLT, Nat.reduceEqDiff, Nat.reduceAdd, Nat.reduceLeDiff, dLg]
  refine acall_flat (by first | rfl | (simp only [xports, xport, hget]; rfl)) (c_W_Right L) rfl ?_
  try simp (maxSteps := 2000000) -implicitDefEqProofs only [zz, zE, evop, ev, ofVal, tget, tput, ok, V.isUndef, Ch.on, calleeOf, withArgs, told, hget, structAt, Blk.width, resOf, resV, resVs, ↓reduceIte, reduceCtorEq, Nat.reduceLT, Nat.reduceEqDiff, Nat.reduceAdd]
  simp (maxSteps := 2000000) -implicitDefEqProofs only [zz, ↓reduceIte, hr]
  have hw : ∀ x ∈ L.1.map dW, okEl 2 x = true := by
    intro x hx
    obtain ⟨y, _, rfl⟩ := List.mem_map.1 hx
    rfl
  have hrl : L.1.reverse.length = L.1.length := by simp
  refine acall_own (by first | rfl | (simp only [xports, xport, hget]; rfl)) (o_Clone_W (L.1.map dW) (by simp; omega) hw) ?_
  try simp (maxSteps := 2000000) -implicitDefEqProofs only [zz, evop, ev, tget, tput, ok, V.isUndef, Ch.on, calleeOf, withArgs, tids, tidss, freeze, ↓reduceIte, Nat.reduceLT, shiftH, Blk.ren, V.ren]
  refine acall_ref [1] (r_Reverse_W L.1 (by omega)) (by first | rfl | simp [renL, V.ren, frρ, renL_ds]) (by simp) rfl (by simp) (by simp) (by intro j hj; match j, hj with | 0, _ => exact ⟨by simp [hget], rfl⟩) ?_
  try simp (maxSteps := 2000000) -implicitDefEqProofs only [zz, evop, ev, tget, tput, ok, V.isUndef, Ch.on, calleeOf, withArgs, hput, ↓reduceIte, Nat.reduceLT, Nat.reduceEqDiff, Nat.reduceAdd, Blk.ren, V.ren, renL, frameH, putL]
  refine acall_ref [1] ((hrl ▸ r_SortStable L.1.reverse (by omega) 131 (fun x y => cmpI x.1 y.1) c_Last1 (fun x y z h1 h2 => by simp [cmpI_lt] at *; omega) (fun x y h => by simp [cmpI_lt] at *; omega) (fun x => by simp [cmpI_lt]))) (by first | rfl | simp [renL, V.ren, frρ, renL_ds]) (by simp) rfl (by simp) (by simp) (by intro j hj; match j, hj with | 0, _ => exact ⟨by simp [hget], rfl⟩) ?_
  try simp (maxSteps := 2000000) -implicitDefEqProofs only [zz, evop, ev, tget, tput, ok, V.isUndef, Ch.on, calleeOf, withArgs, hput, ↓reduceIte, Nat.reduceLT, Nat.reduceEqDiff, Nat.reduceAdd, Blk.ren, V.ren, renL, frameH, putL]
  have hil : (isort (lts fun x y : Int × Int => cmpI x.1 y.1) L.1.reverse).length = L.1.length := by rw [isort_length]; exact hrl
  refine acall_ref [1] ((hil ▸ r_Compact_W (isort (lts fun x y : Int × Int => cmpI x.1 y.1) L.1.reverse) (by omega) 134 (fun a b => a.1 == b.1) c_Last2)) (by first | rfl | simp [renL, V.ren, frρ, renL_ds]) (by simp) rfl (by simp) (by simp) (by intro j hj; match j, hj with | 0, _ => exact ⟨by simp [hget], rfl⟩) ?_
  try simp (maxSteps := 2000000) -implicitDefEqProofs only [zz, evop, ev, tget, tput, ok, V.isUndef, Ch.on, hput, resOf, resV, resVs, ↓reduceIte, Nat.reduceLT, Nat.reduceAdd, Nat.reduceSub, Blk.ren, V.ren, frameH, putL, frρ]
  have e : lastW L.1 = cmpct (fun a b => a.1 == b.1) (isort (lts fun x y : Int × Int => cmpI x.1 y.1) L.1.reverse) := rfl
  rw [← e]
  refine Weak.pick [1] (by decide) (by simp) rfl (fun q hq => ?_) (fun i hi => ?_)
  · obtain rfl : q = _ := by simpa using hq
    exact .same _
  · match i, hi with
    | 0, _ => exact .dat _ _ _ rfl rfl
    | i + 1, hi => exact absurd hi (by simp)

theorem c_Last (L : Lg) : CSpec Tryz.prog 77 [dLg L] (.vec ((if logR L = true then lastW L.1 else []).map dW)) := by
  cases hr : logR L
  · simp only [Bool.false_eq_true, if_false, List.map_nil]
    refine CSpec.of_awp envOf_ok hmix Tryz.func77 rfl (fun args w => Tryz.call77 args w) (by simp [Tryz.f77]) ?_
    simp only [Tryz.f77]
    simp (maxSteps := 2000000) -implicitDefEqProofs only [zz, zE, evop, ev, ofVal, tget, tput, ok, V.isUndef, initT, Ch.on, calleeOf, withArgs, hget, hput, V.cells, ↓reduceIte, Nat.reduceLT, Nat.reduceEqDiff, Nat.reduceAdd, Nat.reduceLeDiff, dLg]
    refine acall_flat (by first | rfl | (simp only [xports, xport, hget]; rfl)) (c_W_Right L) rfl ?_
    try simp (maxSteps := 2000000) -implicitDefEqProofs only [zz, zE, evop, ev, ofVal, tget, tput, ok, V.isUndef, Ch.on, calleeOf, withArgs, told, xport, hget, structAt, Blk.width, resOf, resV, resVs, ↓reduceIte, reduceCtorEq, Nat.reduceLT, Nat.reduceEqDiff, Nat.reduceAdd]
    simp (maxSteps := 2000000) -implicitDefEqProofs only [zz, ↓reduceIte, hr]
  · simp only [if_true]
    refine (o_Last L hr).cspec ?_
    simp only [xport, hget, List.drop_zero]
    rw [List.map_append, List.take_left' (by simp)]

end Go.Proofs.YtjhfpabldidlgaaGreat.AM

/- The document's Get. -/
set_option linter.all false
set_option maxRecDepth 100000
set_option maxHeartbeats 4000000
namespace Go.Proofs.YtjhfpabldidlgaaGreat.AM
open Go Go.RowKit

theorem getW_snoc' (zs : List (Int × Int)) (w : Int × Int) (c : Int) : getW (zs ++ [w]) c = if w.1 = c then (w.2, true) else getW zs c := by
  unfold getW
  rw [List.reverse_append, List.reverse_singleton, List.singleton_append, List.find?_cons]
  by_cases h : w.1 = c
  · simp [h]
  · have : (w.1 == c) = false := by simpa using h
    simp [this, h]

theorem logR_nonneg {L : Lg} (h : logR L = true) : ∀ w ∈ L.1, 0 ≤ w.1 := by
  simp only [logR, Bool.and_eq_true, decide_eq_true_eq, Bool.not_eq_eq_eq_not, Bool.not_true, List.any_eq_false] at h
  intro w hw
  have := h.1.1.2 w hw
  simp [wrongW] at this
  omega

theorem c_r06_Get (l : Lg) (c : Int) (h1 : l.1.length ≤ 1000000) : CSpec Tryz.prog 123 [dLg l, .int .i64 c] (.tuple [.int .i64 (getW l.1 c).1, .bool (getW l.1 c).2]) := by
  refine CSpec.of_awp envOf_ok hmix Tryz.func123 rfl (fun args w => Tryz.call123 args w) (by simp [Tryz.f123]) ?_
  simp only [Tryz.f123]
  simp (maxSteps := 2000000) -implicitDefEqProofs only [zz, zE, evop, ev, ofVal, tget, tput, ok, V.isUndef, initT, Ch.on, hput, V.cells, ↓reduceIte, Nat.reduceLT, dLg]
  refine wloop_count l.1.length (fun i => [(8, .d (.int .i64 i)), (6, .d (.int .i64 (getW (l.1.take i) c).1)), (7, .d (.bool (getW (l.1.take i) c).2)), (1, .d (.int .i64 c)), (2, .ptr 0 0 0)]) (fun _ => [bLg l]) (fun i => True) trivial (Weak.sub (by simp [tget, getW])) (fun i hi _ => ?_) (fun _ => ?_)
  · have hx : l.1[i]? = some l.1[i] := List.getElem?_eq_getElem hi
    have h' : ((i : Int) < (l.1.length : Int)) := by omega
    have hw : IntKind.i64.wrap ((i : Int) + 1) = ((i + 1 : Nat) : Int) := by rw [wrap_in (by omega)]; omega
    have ht : l.1.take (i + 1) = l.1.take i ++ [l.1[i]] := by rw [List.take_succ, hx]; rfl
    have hg := getW_snoc' (l.1.take i) l.1[i] c
    rw [← ht] at hg
    simp (maxSteps := 2000000) -implicitDefEqProofs only [zz, zE, evop, ev, ofVal, tget, tput, ok, V.isUndef, intBin, Ch.on, told, hget, D.cells, loadD, structAt, sliceOf, Blk.width, lenOf, ↓reduceIte, reduceCtorEq, Nat.reduceLT, Nat.reduceEqDiff, Nat.reduceAdd, nilTest, dW, h', bLg, List.getElem?_map, hx, Option.map_some, Int.natCast_nonneg]
    split
    · rename_i e
      have e' : l.1[i].1 = c := by simpa using e
      rw [if_pos e'] at hg
      exact Weak.sub (by simp [tget, hw, hg])
    · rename_i e
      have e' : ¬ l.1[i].1 = c := by simpa using e
      rw [if_neg e'] at hg
      exact Weak.sub (by simp [tget, hw, hg])
  · have h' : ¬ ((l.1.length : Int) < (l.1.length : Int)) := by omega
    simp (maxSteps := 2000000) -implicitDefEqProofs only [zz, zE, evop, ev, tget, tput, ok, V.isUndef, intBin, Ch.on, told, xport, xports, hget, structAt, sliceOf, Blk.width, lenOf, resOf, resV, resVs, ↓reduceIte, reduceCtorEq, Nat.reduceLT, Nat.reduceEqDiff, Nat.reduceAdd, nilTest, h', bLg]
    simp

def ltW (x y : Int × Int) : Bool := decide (cmpI x.1 y.1 < 0)
def qW (a b : Int × Int) : Bool := a.1 == b.1
def pW (c : Int) (p : Int × Int) : Bool := p.1 == c
theorem ltW_eq (x y : Int × Int) : ltW x y = decide (x.1 < y.1) := by simp [ltW, cmpI_lt]
theorem ltW_nt (x y z : Int × Int) (h1 : ltW x y = false) (h2 : ltW y z = false) : ltW x z = false := by
  rw [ltW_eq, decide_eq_false_iff_not] at *; omega
theorem ltW_as (x y : Int × Int) (h : ltW x y = true) : ltW y x = false := by
  rw [ltW_eq] at *; simp at *; omega
theorem lastW_eq (ws : List (Int × Int)) : lastW ws = cmpct qW (isort ltW ws.reverse) := rfl

theorem or_assoc' {α : Type} (a b c : Option α) : (a.or b).or c = a.or (b.or c) := by cases a <;> rfl

theorem find_insR (c : Int) (x : Int × Int) {A : List (Int × Int)} (h : PW ltW A) : (insR ltW x A).find? (pW c) = (A.find? (pW c)).or (if pW c x = true then some x else none) := by
  obtain ⟨l1, l2, rfl, g1, g2⟩ := cut_at ltW_nt h x
  rw [insR_cut g1 g2, List.find?_append, List.find?_append, List.find?_cons]
  cases hp : pW c x with
  | true =>
    have : l2.find? (pW c) = none := by
      rw [List.find?_eq_none]
      intro y hy
      have := g2 y hy
      rw [ltW_eq] at this
      simp only [pW, beq_iff_eq] at *
      simp at this
      omega
    rw [this]; simp
  | false => simp

theorem find_isort (c : Int) (l : List (Int × Int)) : (isort ltW l).find? (pW c) = l.find? (pW c) := by
  have : ∀ (l A : List (Int × Int)), PW ltW A → (l.foldl (fun A x => insR ltW x A) A).find? (pW c) = (A.find? (pW c)).or (l.find? (pW c)) := by
    intro l
    induction l with
    | nil => intro A _; simp
    | cons x r ih =>
      intro A h
      rw [List.foldl_cons, ih _ (insR_pw ltW_nt ltW_as h x), find_insR c x h, or_assoc', List.find?_cons]
      congr 1
      cases pW c x <;> rfl
  have h := this l [] List.Pairwise.nil
  simpa [isort] using h

theorem find_cmpctGo (c : Int) : ∀ (r : List (Int × Int)) (y : Int × Int), pW c y = false → (cmpctGo qW y r).find? (pW c) = r.find? (pW c)
  | [], y, _ => rfl
  | z :: r, y, h => by
    simp only [cmpctGo]
    cases hq : qW z y with
    | true =>
      have hz : pW c z = false := by simp only [qW, pW, beq_iff_eq, beq_eq_false_iff_ne] at *; omega
      rw [cond_true, find_cmpctGo c r z hz, List.find?_cons, hz]
    | false =>
      rw [cond_false, List.find?_cons, List.find?_cons]
      cases hz : pW c z with
      | true => rfl
      | false => exact find_cmpctGo c r z hz

theorem find_cmpct (c : Int) (l : List (Int × Int)) : (cmpct qW l).find? (pW c) = l.find? (pW c) := by
  cases l with
  | nil => rfl
  | cons x r =>
    simp only [cmpct, List.find?_cons]
    cases hx : pW c x with
    | true => rfl
    | false => exact find_cmpctGo c r x hx

theorem find_lastW (c : Int) (ws : List (Int × Int)) : (lastW ws).find? (pW c) = ws.reverse.find? (pW c) := by
  rw [lastW_eq, find_cmpct, find_isort]

def UpW (l : List (Int × Int)) : Prop := l.Pairwise (fun x y => x.1 < y.1)

theorem up_cmpctGo : ∀ (r : List (Int × Int)) (y : Int × Int), PW ltW (y :: r) → UpW (y :: cmpctGo qW y r)
  | [], y, _ => by simp [cmpctGo, UpW]
  | z :: r, y, h => by
    obtain ⟨h1, h2⟩ := List.pairwise_cons.1 h
    have hyz := h1 z (by simp)
    rw [ltW_eq, decide_eq_false_iff_not] at hyz
    have ih := up_cmpctGo r z h2
    obtain ⟨i1, i2⟩ := List.pairwise_cons.1 ih
    simp only [cmpctGo]
    cases hq : qW z y with
    | true =>
      simp only [qW, beq_iff_eq] at hq
      exact List.pairwise_cons.2 ⟨fun a ha => by have := i1 a ha; omega, i2⟩
    | false =>
      simp only [qW, beq_eq_false_iff_ne, ne_eq] at hq
      refine List.pairwise_cons.2 ⟨fun a ha => ?_, ih⟩
      rcases List.mem_cons.1 ha with rfl | ha
      · omega
      · have := i1 a ha; omega

theorem up_lastW (ws : List (Int × Int)) : UpW (lastW ws) := by
  rw [lastW_eq]
  have h := isort_pw ltW_nt ltW_as ws.reverse
  cases e : isort ltW ws.reverse with
  | nil => exact List.Pairwise.nil
  | cons x r => rw [e] at h; exact up_cmpctGo r x h

theorem lastW_cell {ws : List (Int × Int)} {w : Int × Int} (h : w ∈ ws) : ∃ p ∈ lastW ws, p.1 = w.1 := by
  have hf := find_lastW w.1 ws
  cases e : (lastW ws).find? (pW w.1) with
  | some p =>
    refine ⟨p, List.mem_of_find?_eq_some e, ?_⟩
    have := List.find?_some e
    simpa [pW] using this
  | none =>
    rw [e] at hf
    have := List.find?_eq_none.1 hf.symm w (by simpa using h)
    simp [pW] at this

theorem lastW_get {ws : List (Int × Int)} {p : Int × Int} (h : p ∈ lastW ws) : getW ws p.1 = (p.2, true) ∧ ∃ w ∈ ws, w.1 = p.1 := by
  have hf := find_lastW p.1 ws
  cases e : (lastW ws).find? (pW p.1) with
  | none =>
    have := List.find?_eq_none.1 e p h
    simp [pW] at this
  | some q =>
    have hq := List.mem_of_find?_eq_some e
    have hq1 : q.1 = p.1 := by have := List.find?_some e; simpa [pW] using this
    have hqp : q = p := by
      obtain ⟨i, hi, rfl⟩ := List.getElem_of_mem hq
      obtain ⟨j, hj, rfl⟩ := List.getElem_of_mem h
      have hu := List.pairwise_iff_getElem.1 (up_lastW ws)
      rcases Nat.lt_trichotomy i j with g | g | g
      · have := hu i j hi hj g; omega
      · subst g; rfl
      · have := hu j i hj hi g; omega
    subst hqp
    rw [e] at hf
    constructor
    · unfold getW
      have hf' : ws.reverse.find? (fun p => p.1 == q.1) = some q := hf.symm
      rw [hf']
    · exact ⟨q, by have := List.mem_of_find?_eq_some hf.symm; simpa using this, rfl⟩

def stepC (at' : Int) (b : Int) (w : Int × Int) : Int := if w.1 > at' ∧ (b < 0 ∨ w.1 < b) then w.1 else b
def nextC (ws : List (Int × Int)) (at' : Int) : Int := ws.foldl (stepC at') (-1)
theorem nextC_snoc (ws : List (Int × Int)) (w : Int × Int) (a : Int) : nextC (ws ++ [w]) a = stepC a (nextC ws a) w := by simp [nextC]

def invC (ws : List (Int × Int)) (a b : Int) : Prop := (b = -1 ∧ ∀ w ∈ ws, w.1 ≤ a) ∨ (0 ≤ b ∧ a < b ∧ (∃ w ∈ ws, w.1 = b) ∧ ∀ w ∈ ws, a < w.1 → b ≤ w.1)

theorem nextC_inv {ws : List (Int × Int)} (h0 : ∀ w ∈ ws, 0 ≤ w.1) (a : Int) : invC ws a (nextC ws a) := by
  have : ∀ (l pre : List (Int × Int)) (b : Int), (∀ w ∈ l, 0 ≤ w.1) → invC pre a b → invC (pre ++ l) a (l.foldl (stepC a) b) := by
    intro l
    induction l with
    | nil => intro pre b _ h; simpa using h
    | cons x r ih =>
      intro pre b hl h
      have e : pre ++ x :: r = (pre ++ [x]) ++ r := by simp
      rw [e, List.foldl_cons]
      refine ih _ _ (fun w hw => hl w (by simp [hw])) ?_
      have hx := hl x (by simp)
      unfold stepC
      rcases h with ⟨rfl, h⟩ | ⟨b0, ab, ⟨w, hw, hwb⟩, h⟩
      · by_cases g : x.1 > a
        · rw [if_pos ⟨g, .inl (by omega)⟩]
          refine .inr ⟨hx, g, ⟨x, by simp, rfl⟩, fun v hv hav => ?_⟩
          rcases List.mem_append.1 hv with hv | hv
          · have := h v hv; omega
          · obtain rfl : v = x := by simpa using hv
            exact Int.le_refl _
        · rw [if_neg (fun g' => g g'.1)]
          refine .inl ⟨rfl, fun v hv => ?_⟩
          rcases List.mem_append.1 hv with hv | hv
          · exact h v hv
          · obtain rfl : v = x := by simpa using hv
            omega
      · by_cases g : x.1 > a ∧ (b < 0 ∨ x.1 < b)
        · rw [if_pos g]
          refine .inr ⟨hx, g.1, ⟨x, by simp, rfl⟩, fun v hv hav => ?_⟩
          rcases List.mem_append.1 hv with hv | hv
          · have := h v hv hav; omega
          · obtain rfl : v = x := by simpa using hv
            exact Int.le_refl _
        · rw [if_neg g]
          refine .inr ⟨b0, ab, ⟨w, by simp [hw], hwb⟩, fun v hv hav => ?_⟩
          rcases List.mem_append.1 hv with hv | hv
          · exact h v hv hav
          · obtain rfl : v = x := by simpa using hv
            omega
  have h := this ws [] (-1) h0 (.inl ⟨rfl, by simp⟩)
  simpa [nextC] using h

/-- The cell of the last one of the first k. -/
def atC (ws : List (Int × Int)) (k : Nat) : Int := if k = 0 then -1 else (((lastW ws)[k - 1]?).getD (0, 0)).1

theorem atC_ge {ws : List (Int × Int)} {k j : Nat} (hk : k ≤ (lastW ws).length) (hj : j < k) : ((lastW ws)[j]'(by omega)).1 ≤ atC ws k := by
  unfold atC
  rw [if_neg (by omega), List.getElem?_eq_getElem (by omega), Option.getD_some]
  rcases Nat.eq_or_lt_of_le (Nat.le_sub_one_of_lt hj) with e | h
  · subst e; exact Int.le_refl _
  · have := List.pairwise_iff_getElem.1 (up_lastW ws) j (k - 1) (by omega) (by omega) h
    omega

theorem next_end {ws : List (Int × Int)} (h0 : ∀ w ∈ ws, 0 ≤ w.1) : nextC ws (atC ws (lastW ws).length) = -1 := by
  rcases nextC_inv h0 (atC ws (lastW ws).length) with h | ⟨_, g, ⟨w, hw, hwb⟩, _⟩
  · exact h.1
  · obtain ⟨p, hp, hpw⟩ := lastW_cell hw
    obtain ⟨j, hj, rfl⟩ := List.getElem_of_mem hp
    have := atC_ge (Nat.le_refl _) hj
    omega

theorem next_step {ws : List (Int × Int)} (h0 : ∀ w ∈ ws, 0 ≤ w.1) {k : Nat} (hk : k < (lastW ws).length) : nextC ws (atC ws k) = ((lastW ws)[k]).1 ∧ 0 ≤ ((lastW ws)[k]).1 := by
  obtain ⟨_, v, hv, hvk⟩ := lastW_get (List.getElem_mem hk)
  have hv0 := h0 v hv
  have hat : atC ws k < ((lastW ws)[k]).1 := by
    unfold atC
    split
    · omega
    · rw [List.getElem?_eq_getElem (by omega), Option.getD_some]
      exact List.pairwise_iff_getElem.1 (up_lastW ws) (k - 1) k (by omega) (by omega) (by omega)
  refine ⟨?_, by omega⟩
  rcases nextC_inv h0 (atC ws k) with h | ⟨_, g, ⟨w, hw, hwb⟩, g2⟩
  · have := h.2 v hv; omega
  · obtain ⟨p, hp, hpw⟩ := lastW_cell hw
    obtain ⟨j, hj, rfl⟩ := List.getElem_of_mem hp
    have h1 := g2 v hv (by omega)
    rcases Nat.lt_trichotomy j k with e | e | e
    · have := atC_ge (Nat.le_of_lt hk) e; omega
    · subst e; omega
    · have := List.pairwise_iff_getElem.1 (up_lastW ws) k j hk hj e; omega

end Go.Proofs.YtjhfpabldidlgaaGreat.AM

/- The document's Last. -/
set_option linter.all false
set_option maxRecDepth 100000
set_option maxHeartbeats 4000000
namespace Go.Proofs.YtjhfpabldidlgaaGreat.AM
open Go Go.RowKit

def oV (k : Nat) : V := if k = 0 then .nils else .own 1 0 k
def oH (l : Lg) (k : Nat) : Heap := if k = 0 then [bLg l] else [bLg l, .dat false 2 (((lastW l.1).take k).map dW)]
theorem oVH (l : Lg) (k : Nat) : (k = 0 ∧ oV k = .nils ∧ oH l k = [bLg l]) ∨ (k ≠ 0 ∧ oV k = .own 1 0 k ∧ oH l k = [bLg l, .dat false 2 (((lastW l.1).take k).map dW)]) := by
  unfold oV oH
  by_cases h : k = 0
  · exact .inl ⟨h, by simp [h], by simp [h]⟩
  · exact .inr ⟨h, by simp [h], by simp [h]⟩

theorem c_r06_Last (l : Lg) (h0 : ∀ w ∈ l.1, 0 ≤ w.1) (h1 : l.1.length ≤ 1000000) : CSpec Tryz.prog 79 [dLg l] (.vec ((lastW l.1).map dW)) := by
  have hN := lastW_len l.1
  refine CSpec.of_awp envOf_ok hmix Tryz.func79 rfl (fun args w => Tryz.call79 args w) (by simp [Tryz.f79]) ?_
  simp only [Tryz.f79]
  simp (maxSteps := 2000000) -implicitDefEqProofs only [zz, zE, evop, ev, ofVal, tget, tput, ok, V.isUndef, initT, Ch.on, hput, V.cells, ↓reduceIte, Nat.reduceLT, Int.reduceNeg, dLg]
  refine wloop_ind (σ := Nat) (fun k => (lastW l.1).length - k) (fun k => [(3, oV k), (4, .d (.int .i64 (atC l.1 k))), (1, .ptr 0 0 0)]) (fun k => oH l k) (fun k => k ≤ (lastW l.1).length) 0 (Nat.zero_le _) (Weak.sub (by simp [tget, oV, atC])) (fun k hk => ?_)
  rcases oVH l k with ⟨hk0, e1, e2⟩ | ⟨hk0, e1, e2⟩
  all_goals
    simp (maxSteps := 2000000) -implicitDefEqProofs only [zz, evop, ev, ofVal, tput, ok, V.isUndef, Ch.on, ↓reduceIte, Nat.reduceLT, Int.reduceNeg, e1, e2]
    refine wloop_count l.1.length (fun i => [(6, .d (.int .i64 i)), (5, .d (.int .i64 (nextC (l.1.take i) (atC l.1 k)))), (3, oV k), (4, .d (.int .i64 (atC l.1 k))), (1, .ptr 0 0 0)]) (fun _ => oH l k) (fun _ => True) trivial (by rw [e1, e2]; exact Weak.sub (by simp [tget, nextC])) (fun i hi _ => ?_) (fun _ => ?_)
    · have hx : l.1[i]? = some l.1[i] := List.getElem?_eq_getElem hi
      have h' : ((i : Int) < (l.1.length : Int)) := by omega
      have hw : IntKind.i64.wrap ((i : Int) + 1) = ((i + 1 : Nat) : Int) := by rw [wrap_in (by omega)]; omega
      have ht : l.1.take (i + 1) = l.1.take i ++ [l.1[i]] := by rw [List.take_succ, hx]; rfl
      have hg := nextC_snoc (l.1.take i) l.1[i] (atC l.1 k)
      rw [← ht] at hg
      simp (maxSteps := 2000000) -implicitDefEqProofs only [zz, zE, evop, ev, ofVal, tget, tput, ok, V.isUndef, intBin, guardOf, Ch.on, told, hget, D.cells, loadD, structAt, sliceOf, Blk.width, lenOf, ↓reduceIte, reduceCtorEq, Nat.reduceLT, Nat.reduceEqDiff, Nat.reduceAdd, nilTest, dW, e1, e2, h', bLg, List.getElem?_map, hx, Option.map_some, Int.natCast_nonneg]
      have hs : nextC (l.1.take (i + 1)) (atC l.1 k) = if l.1[i].1 > atC l.1 k ∧ (nextC (l.1.take i) (atC l.1 k) < 0 ∨ l.1[i].1 < nextC (l.1.take i) (atC l.1 k)) then l.1[i].1 else nextC (l.1.take i) (atC l.1 k) := hg
      generalize nextC (l.1.take (i + 1)) (atC l.1 k) = B' at hs ⊢
      generalize hB : nextC (l.1.take i) (atC l.1 k) = B at hs ⊢
      (repeat' split) <;> (refine Weak.sub ?_; simp [tget, hw]; (try simp only [decide_eq_false_iff_not, Classical.not_not] at *); rw [hs]; split <;> omega)
    · have h' : ¬ ((l.1.length : Int) < (l.1.length : Int)) := by omega
      rcases Nat.eq_or_lt_of_le hk with hk | hk
      · have e5 : nextC (l.1.take l.1.length) (atC l.1 k) = -1 := by rw [List.take_length, hk]; exact next_end h0
        have n3 : ((-1 : Int) < 0) := by omega
        simp (maxSteps := 2000000) -implicitDefEqProofs only [zz, zE, evop, ev, ofVal, tget, tput, ok, V.isUndef, intBin, Ch.on, told, xport, hget, structAt, sliceOf, Blk.width, lenOf, resOf, resV, resVs, ↓reduceIte, reduceCtorEq, Nat.reduceLT, Nat.reduceEqDiff, Nat.reduceAdd, Int.reduceNeg, nilTest, e1, e2, h', bLg, e5, n3]
        try (have hl0 : lastW l.1 = [] := List.eq_nil_of_length_eq_zero (by omega))
        try simp [hl0]
        try simp [List.take_take, hk]
        try exact List.take_of_length_le (by simp)
      · obtain ⟨n1, n2⟩ := next_step h0 hk
        have e5 : nextC (l.1.take l.1.length) (atC l.1 k) = (lastW l.1)[k].1 := by rw [List.take_length]; exact n1
        have n3 : ¬ ((lastW l.1)[k].1 < 0) := by omega
        have gg := (lastW_get (List.getElem_mem hk)).1
        have eo : oV (k + 1) = .own 1 0 (k + 1) := by simp [oV]
        have ea : atC l.1 (k + 1) = (lastW l.1)[k].1 := by unfold atC; rw [if_neg (by omega), Nat.add_sub_cancel, List.getElem?_eq_getElem hk]; rfl
        have et : (lastW l.1).take (k + 1) = (lastW l.1).take k ++ [(lastW l.1)[k]] := by rw [List.take_succ, List.getElem?_eq_getElem hk]; rfl
        have eh : oH l (k + 1) = [bLg l, .dat false 2 (((lastW l.1).take k).map dW ++ [dW (lastW l.1)[k]])] := by unfold oH; rw [if_neg (by omega), et, List.map_append]; rfl
        simp (maxSteps := 2000000) -implicitDefEqProofs only [zz, zE, evop, ev, ofVal, tget, tput, ok, V.isUndef, intBin, Ch.on, calleeOf, withArgs, told, hget, structAt, sliceOf, Blk.width, lenOf, ↓reduceIte, reduceCtorEq, Nat.reduceLT, Nat.reduceEqDiff, Nat.reduceAdd, Nat.reduceLeDiff, nilTest, e1, e2, h', bLg, e5, n3]
        refine acall_flat (by first | rfl | (simp only [xports, xport, hget]; rfl)) (c_r06_Get l (lastW l.1)[k].1 h1) rfl ?_
        try simp (maxSteps := 2000000) -implicitDefEqProofs only [zz, zE, evop, ev, tget, tput, ok, V.isUndef, Ch.on, hget, hput, V.cells, D.cells, V.one, V.clo, clos, V.toD, sliceOf, partsD, partsV, elems, splice, ↓reduceIte, Nat.reduceLT, Nat.reduceEqDiff, Nat.reduceAdd, Nat.reduceMul, Nat.reduceLeDiff]
        simp (maxSteps := 2000000) -implicitDefEqProofs only [gg]
        refine ⟨?_, k + 1, hk, by omega, ?_⟩
        · first
          | exact okEl_W [(lastW l.1)[k]]
          | exact ⟨by omega, okEl_W [(lastW l.1)[k]]⟩
        · rw [eo, eh, ea]
          first
          | (subst hk0
             refine Weak.pick [0, 2] (by decide) (by simp) rfl (fun q hq => ?_) (fun i hi => ?_)
             · simp only [List.mem_cons, List.not_mem_nil, or_false] at hq
               rcases hq with rfl | rfl | rfl <;> exact .same _
             · match i, hi with
               | 0, _ => exact .box _ _ _ rfl rfl (.cons (.same _) (.cons (.same _) .nil))
               | 1, _ => exact .dat _ _ _ rfl rfl
               | i + 2, hi => exact absurd hi (by simp))
          | (have e6 : List.take k (List.map dW (List.take k (lastW l.1))) = List.map dW (List.take k (lastW l.1)) := by rw [List.take_of_length_le]; simp; omega
             rw [e6]
             refine Weak.pick [0, 3] (by decide) (by simp) rfl (fun q hq => ?_) (fun i hi => ?_)
             · simp only [List.mem_cons, List.not_mem_nil, or_false] at hq
               rcases hq with rfl | rfl | rfl <;> exact .same _
             · match i, hi with
               | 0, _ => exact .box _ _ _ rfl rfl (.cons (.same _) (.cons (.same _) .nil))
               | 1, _ => exact .dat _ _ _ rfl rfl
               | i + 2, hi => exact absurd hi (by simp))

end Go.Proofs.YtjhfpabldidlgaaGreat.AM

/- Which cells were read: in order. -/
set_option linter.all false
set_option maxRecDepth 100000
set_option maxHeartbeats 8000000
namespace Go.Proofs.YtjhfpabldidlgaaGreat.AM
open Go Go.RowKit

def cellsL (l : List Rd) : List Int := l.map fun r => r.1
def srtC (l : List Rd) : List Int := srtI (cellsL l)
theorem srtC_len (l : List Rd) : (srtC l).length = l.length := by unfold srtC; rw [srtI_len]; simp [cellsL]

theorem c_reads_Cells (l : List Rd) (hl : l.length ≤ 1000000) (hr : readsR l = true) : CSpec Tryz.prog 76 [.vec (l.map dRd)] (.vec ((srtC l).map dI)) := by
  have hcl : ∀ i, i ≤ l.length → (cellsL (l.take i)).length = i := fun i hi => by simp [cellsL]; omega
  refine CSpec.of_awp envOf_ok hmix Tryz.func76 rfl (fun args w => Tryz.call76 args w) (by simp [Tryz.f76]) ?_
  simp only [Tryz.f76]
  simp (maxSteps := 2000000) -implicitDefEqProofs only [zz, zE, evop, ev, ofVal, tget, tput, ok, V.isUndef, initT, Ch.on, sliceOf, lenOf, ↓reduceIte, reduceCtorEq, Nat.reduceLT]
  refine wloop_count l.length (fun i => [(8, .d (.int .i64 i)), (7, .d (.int .i64 l.length)), (6, .d (.vec (l.map dRd))), (0, .d (.vec (l.map dRd))), (3, .own 0 0 i)]) (fun i => [.dat false 1 ((cellsL (l.take i)).map dI)]) (fun _ => True) trivial ?_ (fun i hi _ => ?_) (fun _ => ?_)
  · refine Weak.pick [7] (by simp) (by simp) rfl (fun q hq => ?_) (fun i hi => ?_)
    · simp only [List.mem_cons, List.not_mem_nil, or_false] at hq
      rcases hq with rfl | rfl | rfl | rfl | rfl
      · exact .same _
      · exact .same _
      · exact .same _
      · exact .same _
      · exact .nils 0 1 rfl
    · obtain rfl : i = 0 := by simpa using hi
      exact .virt 1 rfl rfl
  · have hx : l[i]? = some l[i] := List.getElem?_eq_getElem hi
    have h' : ((i : Int) < (l.length : Int)) := by omega
    have hw : IntKind.i64.wrap ((i : Int) + 1) = ((i + 1 : Nat) : Int) := by rw [wrap_in (by omega)]; omega
    have hT : cellsL (l.take (i + 1)) = cellsL (l.take i) ++ [l[i].1] := by unfold cellsL; rw [List.take_succ, hx, List.map_append]; rfl
    have e6 : List.take i ((cellsL (l.take i)).map dI) = (cellsL (l.take i)).map dI := by rw [List.take_of_length_le]; rw [List.length_map, hcl i (by omega)]; exact Nat.le_refl _
    simp (maxSteps := 2000000) -implicitDefEqProofs only [zz, zE, evop, ev, ofVal, tget, tput, ok, V.isUndef, intBin, Ch.on, told, hget, hput, V.cells, D.cells, V.one, V.toD, loadD, structAt, sliceOf, partsD, Blk.width, elems, splice, ↓reduceIte, reduceCtorEq, Nat.reduceLT, Nat.reduceEqDiff, Nat.reduceAdd, Nat.reduceMul, Nat.reduceLeDiff, nilTest, dRd, h', List.getElem?_map, hx, Option.map_some, Int.natCast_nonneg, hw]
    refine ⟨⟨by omega, okEl_I [l[i].1]⟩, ?_⟩
    rw [hT, e6, List.map_append]
    refine Weak.pick [3] (by decide) (by simp) rfl (fun q hq => ?_) (fun i hi => ?_)
    · simp only [List.mem_cons, List.not_mem_nil, or_false] at hq
      rcases hq with rfl | rfl | rfl | rfl | rfl <;> exact .same _
    · match i, hi with
      | 0, _ => exact .dat _ _ _ rfl rfl
      | i + 1, hi => exact absurd hi (by simp)
  · have h' : ¬ ((l.length : Int) < (l.length : Int)) := by omega
    rw [List.take_length]
    simp (maxSteps := 2000000) -implicitDefEqProofs only [zz, evop, ev, tget, tput, ok, V.isUndef, intBin, Ch.on, calleeOf, withArgs, told, ↓reduceIte, reduceCtorEq, Nat.reduceLT, Nat.reduceEqDiff, nilTest, h']
    refine acall_flat (by first | rfl | (simp only [xports, xport, hget]; rfl)) (c_reads_Right l hl) rfl ?_
    try simp (maxSteps := 2000000) -implicitDefEqProofs only [zz, evop, ev, ofVal, tget, tput, ok, V.isUndef, Ch.on, calleeOf, withArgs, told, xport, resOf, resV, resVs, ↓reduceIte, reduceCtorEq, Nat.reduceLT, Nat.reduceEqDiff]
    simp (maxSteps := 2000000) -implicitDefEqProofs only [zz, ↓reduceIte, hr]
    have hs := r_Sort_int (cellsL l) (by simp [cellsL]; omega)
    have hcl' : (cellsL l).length = l.length := by simp [cellsL]
    rw [hcl'] at hs
    refine acall_ref [0] (hs) (by first | rfl | simp [renL, V.ren, frρ, renL_ds]) (by simp) rfl (by simp) (by simp) (by intro j hj; match j, hj with | 0, _ => exact ⟨by simp [hget], rfl⟩) ?_
    try simp (maxSteps := 2000000) -implicitDefEqProofs only [zz, evop, ev, tget, tput, ok, V.isUndef, Ch.on, xport, hget, hput, resOf, resV, resVs, ↓reduceIte, reduceCtorEq, Nat.reduceLT, Nat.reduceEqDiff, Blk.ren, V.ren, renL, frameH, putL]
    rw [List.take_of_length_le (by rw [List.length_map]; unfold srtI; simp [cellsL])]
    rfl

/-! ### the document's -/
def asW (l : List Rd) : List (Int × Int) := l.map fun r => (r.1, 0)
def atS (l : List Rd) (k : Nat) : Int := if k = 0 then -1 else ((srtC l)[k - 1]?).getD 0

theorem srtC_perm (l : List Rd) : (srtC l).Perm (cellsL l) := List.mergeSort_perm ..
theorem srtC_up {l : List Rd} (hr : readsR l = true) : (srtC l).Pairwise (fun a b => a < b) := by
  have h1 : (srtC l).Pairwise (fun a b => decide (a ≤ b) = true) := List.pairwise_mergeSort (fun a b c h1 h2 => by simp at *; omega) (fun a b => by simp; omega) _
  have h2 : (srtC l).Nodup := (srtC_perm l).nodup_iff.2 (readsR_parts.1 hr).2.1
  refine List.Pairwise.imp₂ (fun a b h1 h2 => ?_) h1 h2
  simp at h1
  omega
theorem srtC_mem {l : List Rd} {c : Int} : c ∈ srtC l ↔ ∃ w ∈ asW l, w.1 = c := by
  rw [(srtC_perm l).mem_iff]
  constructor
  · intro h
    obtain ⟨x, hx, rfl⟩ := List.mem_map.1 h
    exact ⟨(x.1, 0), List.mem_map.2 ⟨x, hx, rfl⟩, rfl⟩
  · rintro ⟨w, hw, rfl⟩
    obtain ⟨x, hx, rfl⟩ := List.mem_map.1 hw
    exact List.mem_map.2 ⟨x, hx, rfl⟩

theorem asW_nonneg {l : List Rd} (hr : readsR l = true) : ∀ w ∈ asW l, 0 ≤ w.1 := by
  intro w hw
  simp only [asW, List.mem_map] at hw
  obtain ⟨x, hx, rfl⟩ := hw
  have := (readsR_parts.1 hr).1 x hx
  simp [rightRd] at this
  exact this.1.1

theorem nextS_step {l : List Rd} (hr : readsR l = true) {k : Nat} (hk : k < (srtC l).length) : nextC (asW l) (atS l k) = (srtC l)[k] ∧ 0 ≤ (srtC l)[k] := by
  have hup := List.pairwise_iff_getElem.1 (srtC_up hr)
  obtain ⟨w, hw, hwk⟩ := srtC_mem.1 (List.getElem_mem hk)
  have h0 := asW_nonneg hr w hw
  have hat : atS l k < (srtC l)[k] := by
    unfold atS
    split
    · omega
    · rw [List.getElem?_eq_getElem (by omega), Option.getD_some]
      exact hup (k - 1) k (by omega) (by omega) (by omega)
  refine ⟨?_, by omega⟩
  rcases nextC_inv (asW_nonneg hr) (atS l k) with h | ⟨_, g, ⟨v, hv, hvb⟩, g2⟩
  · have := h.2 w hw; omega
  · have h3 := g2 w hw (by omega)
    obtain ⟨j, hj, hjv⟩ := List.getElem_of_mem (srtC_mem.2 ⟨v, hv, hvb⟩)
    rcases Nat.lt_trichotomy j k with hjk | rfl | hjk
    · exfalso
      have : (srtC l)[j] ≤ atS l k := by
        unfold atS
        rw [if_neg (by omega), List.getElem?_eq_getElem (by omega), Option.getD_some]
        rcases Nat.eq_or_lt_of_le (Nat.le_sub_one_of_lt hjk) with e | h
        · subst e; exact Int.le_refl _
        · have := hup j (k - 1) (by omega) (by omega) h; omega
      omega
    · exact hjv.symm
    · have := hup k j (by omega) (by omega) hjk
      omega

theorem nextS_end {l : List Rd} (hr : readsR l = true) : nextC (asW l) (atS l (srtC l).length) = -1 := by
  have hup := List.pairwise_iff_getElem.1 (srtC_up hr)
  rcases nextC_inv (asW_nonneg hr) (atS l (srtC l).length) with h | ⟨h0, g, ⟨v, hv, hvb⟩, g2⟩
  · exact h.1
  · exfalso
    obtain ⟨j, hj, hjv⟩ := List.getElem_of_mem (srtC_mem.2 ⟨v, hv, hvb⟩)
    have : (srtC l)[j] ≤ atS l (srtC l).length := by
      unfold atS
      rw [if_neg (by omega), List.getElem?_eq_getElem (by omega), Option.getD_some]
      rcases Nat.eq_or_lt_of_le (Nat.le_sub_one_of_lt hj) with e | h
      · subst e; exact Int.le_refl _
      · have := hup j ((srtC l).length - 1) (by omega) (by omega) h; omega
    omega

def sV (k : Nat) : V := if k = 0 then .nils else .own 0 0 k
def sH (l : List Rd) (k : Nat) : Heap := if k = 0 then [] else [.dat false 1 (((srtC l).take k).map dI)]
theorem sVH (l : List Rd) (k : Nat) : (k = 0 ∧ sV k = .nils ∧ sH l k = []) ∨ (k ≠ 0 ∧ sV k = .own 0 0 k ∧ sH l k = [.dat false 1 (((srtC l).take k).map dI)]) := by
  unfold sV sH
  by_cases h : k = 0
  · exact .inl ⟨h, by simp [h], by simp [h]⟩
  · exact .inr ⟨h, by simp [h], by simp [h]⟩

theorem c_r05_Cells (l : List Rd) (hl : l.length ≤ 1000000) (hr : readsR l = true) : CSpec Tryz.prog 78 [.vec (l.map dRd)] (.vec ((srtC l).map dI)) := by
  have hN := srtC_len l
  refine CSpec.of_awp envOf_ok hmix Tryz.func78 rfl (fun args w => Tryz.call78 args w) (by simp [Tryz.f78]) ?_
  simp only [Tryz.f78]
  simp (maxSteps := 2000000) -implicitDefEqProofs only [zz, evop, ev, ofVal, tput, ok, V.isUndef, initT, Ch.on, ↓reduceIte, Nat.reduceLT, Int.reduceNeg]
  refine wloop_ind (σ := Nat) (fun k => (srtC l).length - k) (fun k => [(3, sV k), (4, .d (.int .i64 (atS l k))), (0, .d (.vec (l.map dRd)))]) (fun k => sH l k) (fun k => k ≤ (srtC l).length) 0 (Nat.zero_le _) (Weak.sub (by simp [tget, sV, atS])) (fun k hk => ?_)
  rcases sVH l k with ⟨hk0, e1, e2⟩ | ⟨hk0, e1, e2⟩
  all_goals
    simp (maxSteps := 2000000) -implicitDefEqProofs only [zz, evop, ev, ofVal, tput, ok, V.isUndef, Ch.on, ↓reduceIte, Nat.reduceLT, Int.reduceNeg, e1, e2]
    refine wloop_count l.length (fun i => [(6, .d (.int .i64 i)), (5, .d (.int .i64 (nextC ((asW l).take i) (atS l k)))), (3, sV k), (4, .d (.int .i64 (atS l k))), (0, .d (.vec (l.map dRd)))]) (fun _ => sH l k) (fun _ => True) trivial (by rw [e1, e2]; exact Weak.sub (by simp [tget, nextC])) (fun i hi _ => ?_) (fun _ => ?_)
    · have hx : l[i]? = some l[i] := List.getElem?_eq_getElem hi
      have h' : ((i : Int) < (l.length : Int)) := by omega
      have hw : IntKind.i64.wrap ((i : Int) + 1) = ((i + 1 : Nat) : Int) := by rw [wrap_in (by omega)]; omega
      have ht : (asW l).take (i + 1) = (asW l).take i ++ [(l[i].1, 0)] := by rw [List.take_succ]; simp [asW, hx]
      have hg := nextC_snoc ((asW l).take i) (l[i].1, 0) (atS l k)
      rw [← ht] at hg
      simp (maxSteps := 2000000) -implicitDefEqProofs only [zz, zE, evop, ev, ofVal, tget, tput, ok, V.isUndef, intBin, guardOf, Ch.on, told, D.cells, loadD, structAt, sliceOf, lenOf, ↓reduceIte, reduceCtorEq, Nat.reduceLT, Nat.reduceEqDiff, Nat.reduceAdd, nilTest, dRd, e1, e2, h', List.getElem?_map, hx, Option.map_some, Int.natCast_nonneg]
      have hs : nextC ((asW l).take (i + 1)) (atS l k) = if l[i].1 > atS l k ∧ (nextC ((asW l).take i) (atS l k) < 0 ∨ l[i].1 < nextC ((asW l).take i) (atS l k)) then l[i].1 else nextC ((asW l).take i) (atS l k) := hg
      generalize nextC ((asW l).take (i + 1)) (atS l k) = B' at hs ⊢
      generalize hB : nextC ((asW l).take i) (atS l k) = B at hs ⊢
      (repeat' split) <;> (refine Weak.sub ?_; simp [tget, hw]; (try simp only [decide_eq_false_iff_not, Classical.not_not] at *); rw [hs]; split <;> omega)
    · have h' : ¬ ((l.length : Int) < (l.length : Int)) := by omega
      have hall : (asW l).take l.length = asW l := by rw [List.take_of_length_le]; simp [asW]
      rcases Nat.eq_or_lt_of_le hk with hk | hk
      · have e5 : nextC ((asW l).take l.length) (atS l k) = -1 := by rw [hall, hk]; exact nextS_end hr
        have n3 : ((-1 : Int) < 0) := by omega
        simp (maxSteps := 2000000) -implicitDefEqProofs only [zz, zE, evop, ev, ofVal, tget, tput, ok, V.isUndef, intBin, Ch.on, told, xport, hget, sliceOf, lenOf, resOf, resV, resVs, ↓reduceIte, reduceCtorEq, Nat.reduceLT, Nat.reduceEqDiff, Int.reduceNeg, nilTest, e1, e2, h', e5, n3]
        try (have hl0 : srtC l = [] := List.eq_nil_of_length_eq_zero (by omega))
        try simp [hl0]
        try simp [List.take_take, hk]
        try exact List.take_of_length_le (by simp)
      · obtain ⟨n1, n2⟩ := nextS_step hr hk
        have e5 : nextC ((asW l).take l.length) (atS l k) = (srtC l)[k] := by rw [hall]; exact n1
        have n3 : ¬ ((srtC l)[k] < 0) := by omega
        have eo : sV (k + 1) = .own 0 0 (k + 1) := by simp [sV]
        have ea : atS l (k + 1) = (srtC l)[k] := by unfold atS; rw [if_neg (by omega), Nat.add_sub_cancel, List.getElem?_eq_getElem hk]; rfl
        have et : (srtC l).take (k + 1) = (srtC l).take k ++ [(srtC l)[k]] := by rw [List.take_succ, List.getElem?_eq_getElem hk]; rfl
        have eh : sH l (k + 1) = [.dat false 1 (((srtC l).take k).map dI ++ [dI (srtC l)[k]])] := by unfold sH; rw [if_neg (by omega), et, List.map_append]; rfl
        simp (maxSteps := 2000000) -implicitDefEqProofs only [zz, zE, evop, ev, ofVal, tget, tput, ok, V.isUndef, intBin, Ch.on, told, hget, hput, V.cells, D.cells, V.one, V.toD, sliceOf, partsD, elems, lenOf, ↓reduceIte, reduceCtorEq, Nat.reduceLT, Nat.reduceEqDiff, Nat.reduceAdd, Nat.reduceMul, Nat.reduceLeDiff, nilTest, e1, e2, h', e5, n3]
        refine ⟨?_, k + 1, hk, by omega, ?_⟩
        · first
          | exact okEl_I [(srtC l)[k]]
          | exact ⟨by omega, okEl_I [(srtC l)[k]]⟩
        · rw [eo, eh, ea]
          first
          | (subst hk0
             refine Weak.pick [1] (by decide) (by simp) rfl (fun q hq => ?_) (fun i hi => ?_)
             · simp only [List.mem_cons, List.not_mem_nil, or_false] at hq
               rcases hq with rfl | rfl | rfl <;> exact .same _
             · match i, hi with
               | 0, _ => exact .dat _ _ _ rfl rfl
               | i + 1, hi => exact absurd hi (by simp))
          | (have e6 : List.take k (List.map dI (List.take k (srtC l))) = List.map dI (List.take k (srtC l)) := by rw [List.take_of_length_le]; simp; omega
             rw [e6]
             refine Weak.pick [2] (by decide) (by simp) rfl (fun q hq => ?_) (fun i hi => ?_)
             · simp only [List.mem_cons, List.not_mem_nil, or_false] at hq
               rcases hq with rfl | rfl | rfl <;> exact .same _
             · match i, hi with
               | 0, _ => exact .dat _ _ _ rfl rfl
               | i + 1, hi => exact absurd hi (by simp))
end Go.Proofs.YtjhfpabldidlgaaGreat.AM

/- Last, Same; the fixed answer of layer 6. -/
set_option linter.all false
set_option maxRecDepth 100000
set_option maxHeartbeats 4000000
namespace Go.Proofs.YtjhfpabldidlgaaGreat.AM
open Go Go.RowKit

theorem c_Same (a b : Lg) (ha1 : a.1.length ≤ 1000000) (ha2 : a.2.length ≤ 1000000) (hb1 : b.1.length ≤ 1000000) (hb2 : b.2.length ≤ 1000000) : CSpec Tryz.prog 60 [dLg a, dLg b] (.bool (decide (a = b))) := by
  refine CSpec.of_awp envOf_ok hmix Tryz.func60 rfl (fun args w => Tryz.call60 args w) (by simp [Tryz.f60]) ?_
  simp only [Tryz.f60]
  simp (maxSteps := 2000000) -implicitDefEqProofs only [zz, zE, evop, ev, ofVal, tget, tput, ok, V.isUndef, initT, Ch.on, calleeOf, withArgs, hget, hput, V.cells, structAt, Blk.width, ↓reduceIte, reduceCtorEq, Nat.reduceLT, Nat.reduceEqDiff, Nat.reduceAdd, dLg]
  refine acall_flat (by first | rfl | (simp only [xports, xport, hget]; rfl)) (c_r06_List a.1 b.1 ha1 hb1) rfl ?_
  try simp (maxSteps := 2000000) -implicitDefEqProofs only [zz, zE, evop, ev, ofVal, tget, tput, ok, V.isUndef, intBin, guardOf, Ch.on, told, xport, hget, structAt, sliceOf, Blk.width, lenOf, resOf, resV, resVs, ↓reduceIte, reduceCtorEq, Nat.reduceLT, Nat.reduceEqDiff, Nat.reduceAdd, nilTest]
  by_cases h1 : a.1 = b.1
  · have hd : decide (a.1 = b.1) = true := by simpa using h1
    simp (maxSteps := 2000000) -implicitDefEqProofs only [zz, ↓reduceIte, hd]
    split
    · rename_i hne
      have : a ≠ b := fun e => by subst e; simp at hne
      simp [this]
    · rename_i hne
      have hl : a.2.length = b.2.length := by simp at hne; omega
      refine wloop_count a.2.length (fun i => [(6, .d (.int .i64 i)), (2, .ptr 0 0 0), (3, .ptr 1 0 0)]) (fun _ => [.box false [.d (.vec (a.1.map dW)), .d (.vec (a.2.map dI))], .box false [.d (.vec (b.1.map dW)), .d (.vec (b.2.map dI))]]) (fun i => ∀ j < i, a.2[j]? = b.2[j]?) (fun j hj => by omega) (Weak.sub (by simp [tget])) (fun i hi hI => ?_) (fun hI => ?_)
      · have hx : a.2[i]? = some a.2[i] := List.getElem?_eq_getElem hi
        have hy : b.2[i]? = some b.2[i] := List.getElem?_eq_getElem (by omega)
        have h' : ((i : Int) < (a.2.length : Int)) := by omega
        simp (maxSteps := 2000000) -implicitDefEqProofs only [zz, zE, evop, ev, tget, tput, ok, V.isUndef, intBin, Ch.on, told, hget, structAt, sliceOf, Blk.width, lenOf, ↓reduceIte, reduceCtorEq, Nat.reduceLT, Nat.reduceEqDiff, Nat.reduceAdd, nilTest, h']
        refine wdraw_plan [⟨[], false, [32, 35, 36, 37, 38, 39], [], false⟩, ⟨[0], false, [32, 35, 36, 37, 38, 39], [], false⟩, ⟨[], false, [30, 31, 35, 36, 37, 38, 39], [0, 1], false⟩, ⟨[0, 1, 2], false, [35, 36, 37, 38, 39], [], false⟩, ⟨[0, 1, 2, 3], false, [35, 36, 37, 38, 39], [], false⟩, ⟨[], false, [30, 31, 32, 33, 34, 37], [0, 1, 2, 3, 4], false⟩, ⟨[5], false, [30, 31, 32, 33, 34, 37], [0, 1, 2, 3, 4], false⟩, ⟨[], false, [30, 31, 32, 33, 34, 35, 36], [0, 1, 2, 3, 4, 5, 6], false⟩, ⟨[5, 6, 7], false, [30, 31, 32, 33, 34], [0, 1, 2, 3, 4], false⟩, ⟨[5, 6, 7, 8], false, [30, 31, 32, 33, 34], [0, 1, 2, 3, 4], false⟩, ⟨[0, 1, 2, 3, 4, 5, 6, 7, 8, 9], true, [], [], false⟩] (by decide) ?_
        simp (maxSteps := 2000000) -implicitDefEqProofs only [zz, zE, evop, ev, ofVal, tget, tput, ok, V.isUndef, intBin, Ch.on, told, xport, hget, hput, V.cells, D.cells, V.isAgg, loadD, structAt, Blk.width, resOf, resV, resVs, ↓reduceIte, reduceCtorEq, Nat.reduceLT, Nat.reduceEqDiff, Nat.reduceAdd, Nat.reduceLeDiff, nilTest, dI, List.getElem?_map, hx, hy, Option.map_some, Int.natCast_nonneg]
        have hw : IntKind.i64.wrap ((i : Int) + 1) = ((i + 1 : Nat) : Int) := by rw [wrap_in (by omega)]; omega
        split
        · rename_i hne
          have : a ≠ b := fun e => by subst e; simp at hne
          simp [this]
        · rename_i hne
          have he : a.2[i] = b.2[i] := by simpa using hne
          refine ⟨fun j hj => ?_, Weak.trims 2 rfl (by simp [tget, hw, V.lower]) (by simp [Blk.lower, V.lower, lowerL])⟩
          rcases Nat.lt_or_ge j i with h | h
          · exact hI j h
          · obtain rfl : j = i := by omega
            rw [hx, hy, he]
      · have h' : ¬ ((a.2.length : Int) < (a.2.length : Int)) := by omega
        simp (maxSteps := 2000000) -implicitDefEqProofs only [zz, zE, evop, ev, ofVal, tget, tput, ok, V.isUndef, intBin, Ch.on, told, xport, hget, structAt, sliceOf, Blk.width, lenOf, resOf, resV, resVs, ↓reduceIte, reduceCtorEq, Nat.reduceLT, Nat.reduceEqDiff, Nat.reduceAdd, nilTest, h']
        have : a = b := by
          refine Prod.ext h1 (List.ext_getElem? fun k => ?_)
          rcases Nat.lt_or_ge k a.2.length with hk | hk
          · exact hI k hk
          · rw [List.getElem?_eq_none hk, List.getElem?_eq_none (by omega)]
        simp [this]
  · have hd : decide (a.1 = b.1) = false := by simpa using h1
    have : a ≠ b := fun e => h1 (by rw [e])
    simp (maxSteps := 2000000) -implicitDefEqProofs only [zz, ↓reduceIte, hd]
    simp [this]


end Go.Proofs.YtjhfpabldidlgaaGreat.AM

/- A stepper's parts. -/
set_option linter.all false
set_option maxRecDepth 100000
set_option maxHeartbeats 4000000
namespace Go.Proofs.YtjhfpabldidlgaaGreat.AM
open Go Go.RowKit

/-- A stepper: a try, and what it looks at. -/
def bX (t : Ty) (h : List (Bool × Int)) (r : List (Int × Int)) : Blk := .box false [.d (.int .i64 t.who), .d (.int .i64 t.snap), .d (.int .i64 t.pc), .d (.vec (t.regs.map dI)), .d (.vec (t.path.map dI)), .d (.vec (t.reads.map dRd)), .d (.vec (t.log.1.map dW)), .d (.vec (t.log.2.map dI)), .d (.vec (t.frames.map dFr)), .d (.int .i64 t.kind), .d (.int .i64 t.why), .d (.vec (h.map dC)), .d (.vec (r.map dW))]

theorem r_x_end (t : Ty) (h : List (Bool × Int)) (r : List (Int × Int)) (k w : Int) : RSpec Tryz.prog 118 [.ptr 0 0 0, .d (.int .i64 k), .d (.int .i64 w)] [bX t h r] (.tuple []) [bX (endT t k w) h r] := by
  refine RSpec.of_awp envOf_ok hmix Tryz.func118 rfl (fun args w => Tryz.call118 args w) (by simp [Tryz.f118]) ?_
  simp only [Tryz.f118]
  simp (maxSteps := 2000000) -implicitDefEqProofs only [zz, evop, ev, tget, tput, ok, V.isUndef, Ch.on, hget, isPtr, Blk.width, ↓reduceIte, reduceCtorEq, Nat.reduceLT, Nat.reduceEqDiff, Nat.reduceAdd, initV]
  unfold bX endT
  simp (maxSteps := 2000000) -implicitDefEqProofs only [zz, zE, evop, ev, tget, tput, ok, Ch.on, hget, hput, V.cells, V.one, structAt, isPtr, Blk.width, splice, resOf, resVs, ↓reduceIte, reduceCtorEq, Nat.reduceLT, Nat.reduceEqDiff, Nat.reduceAdd, Nat.reduceLeDiff]
  exact Weak.trimsM 1 (by simp) rfl (by simp [tget, V.lower, lowerL]) (by simp [Blk.lower, lowerL, V.lower])

theorem r_x_tell (t : Ty) (h : List (Bool × Int)) (r : List (Int × Int)) (x : List (Int × Int)) (hl : h.length ≤ 1000000) (htl : x.length ≤ 1000000) : RSpec Tryz.prog 115 [.ptr 0 0 0, .d (.vec (x.map dW))] [bX t h r] (.d (.int .i64 (tellT t h x))) [bX t h r] := by
  refine RSpec.of_awp envOf_ok hmix Tryz.func115 rfl (fun args w => Tryz.call115 args w) (by simp [Tryz.f115]) ?_
  simp only [Tryz.f115]
  simp (maxSteps := 2000000) -implicitDefEqProofs only [zz, evop, ev, ofVal, tput, ok, V.isUndef, Ch.on, ↓reduceIte, Nat.reduceLT, initV]
  unfold bX
  refine wdraw_plan [⟨[], false, [9, 10, 11, 12, 13, 14, 15, 16, 17], [], false⟩, ⟨[], false, [8, 13, 14, 15, 16, 17], [0], false⟩, ⟨[1], false, [8, 13, 14, 15, 16, 17], [0], false⟩, ⟨[1, 2], false, [8, 13, 14, 15, 16, 17], [0], false⟩, ⟨[1, 2, 3], false, [8, 13, 14, 15, 16, 17], [0], false⟩, ⟨[], false, [8, 9, 10, 11, 12], [0, 1, 2, 3, 4], false⟩, ⟨[5], false, [8, 9, 10, 11, 12], [0, 1, 2, 3, 4], false⟩, ⟨[5, 6], false, [8, 9, 10, 11, 12], [0, 1, 2, 3, 4], false⟩, ⟨[5, 6, 7], false, [8, 9, 10, 11, 12], [0, 1, 2, 3, 4], false⟩, ⟨[5, 6, 7, 8], false, [8, 9, 10, 11, 12], [0, 1, 2, 3, 4], false⟩, ⟨[0, 1, 2, 3, 4, 5, 6, 7, 8, 9], true, [], [], false⟩, ⟨[0, 1, 2, 3, 4, 5, 6, 7, 8, 9, 10], true, [], [], false⟩, ⟨[0, 1, 2, 3, 4, 5, 6, 7, 8, 9, 10, 11], false, [20], [], false⟩, ⟨[0, 1, 2, 3, 4, 5, 6, 7, 8, 9, 10, 11], false, [5, 19], [12], false⟩, ⟨[0, 1, 2, 3, 4, 5, 6, 7, 8, 9, 10, 11, 12], false, [20], [13], false⟩, ⟨[0, 1, 2, 3, 4, 5, 6, 7, 8, 9, 10, 11, 12, 13, 14], true, [], [], false⟩] (by decide) ?_
  simp (maxSteps := 2000000) -implicitDefEqProofs only [zz, zE, evop, ev, ofVal, tget, tput, ok, V.isUndef, calleeOf, withArgs, hget, hput, D.cells, loadD, structAt, isPtr, Blk.width, ↓reduceIte, reduceCtorEq, Nat.reduceLT, Nat.reduceEqDiff, Nat.reduceAdd, Nat.reduceLeDiff]
  have he := c_Eval h t.regs x hl htl
  refine acall_flat (by first | rfl | (simp only [xports, xport, hget]; rfl)) (he) rfl ?_
  try simp (maxSteps := 2000000) -implicitDefEqProofs only [zz, evop, ev, tget, tput, ok, V.isUndef, Ch.on, hput, resOf, resV, resVs, ↓reduceIte, Nat.reduceLT, Nat.reduceEqDiff, Nat.reduceAdd, Nat.reduceSub, Nat.reduceLeDiff]
  exact Weak.trimsM 1 (by simp) rfl (by simp [tget, V.lower, tellT]) (by simp [Blk.lower, lowerL, V.lower])

theorem r_x_put (t : Ty) (h : List (Bool × Int)) (r : List (Int × Int)) (a v : Int) (hreg : t.regs.length = 8) (ha : 0 ≤ a ∧ a < 8) (hpc : 0 ≤ t.pc ∧ t.pc ≤ 1000000) : RSpec Tryz.prog 114 [.ptr 0 0 0, .d (.int .i64 a), .d (.int .i64 v)] [bX t h r] (.tuple []) [bX (putT t a v) h r] := by
  refine RSpec.of_awp envOf_ok hmix Tryz.func114 rfl (fun args w => Tryz.call114 args w) (by simp [Tryz.f114]) ?_
  simp only [Tryz.f114]
  simp (maxSteps := 2000000) -implicitDefEqProofs only [zz, evop, ev, tget, tput, ok, V.isUndef, Ch.on, hget, isPtr, Blk.width, ↓reduceIte, reduceCtorEq, Nat.reduceLT, Nat.reduceAdd, initV]
  unfold bX
  simp (maxSteps := 2000000) -implicitDefEqProofs only [zz, zE, evop, ev, tget, tput, ok, V.isUndef, Ch.on, calleeOf, withArgs, hget, structAt, Blk.width, ↓reduceIte, reduceCtorEq, Nat.reduceLT, Nat.reduceAdd]
  have hc := o_Clone_int (t.regs.map dI) (by simp; omega) (okEl_I _)
  rw [List.length_map, hreg] at hc
  have hwp : IntKind.i64.wrap (t.pc + 1) = t.pc + 1 := by rw [wrap_in (by omega)]
  refine acall_own (by first | rfl | (simp only [xports, xport, hget]; rfl)) (hc) ?_
  try simp (maxSteps := 2000000) -implicitDefEqProofs only [zz, zE, evop, ev, tget, tput, ok, V.isUndef, Ch.on, tids, tidss, hget, hput, freeze, V.cells, D.cells, V.one, V.clo, clos, structAt, isPtr, Blk.width, splice, D.over, ↓reduceIte, reduceCtorEq, Nat.reduceLT, Nat.reduceEqDiff, Nat.reduceAdd, Nat.reduceLeDiff, shiftH, Blk.ren, V.ren]
  have hx : t.regs[a.toNat]? = some (t.regs[a.toNat]'(by omega)) := List.getElem?_eq_getElem (by omega)
  simp (maxSteps := 2000000) -implicitDefEqProofs only [zz, zE, evop, ev, ofVal, tget, tput, ok, V.isUndef, intBin, Ch.on, hget, hput, V.cells, V.one, structAt, isPtr, Blk.width, splice, resOf, resVs, ↓reduceIte, reduceCtorEq, Nat.reduceLT, Nat.reduceEqDiff, Nat.reduceAdd, Nat.reduceLeDiff, nilTest, dI, List.getElem?_map, hx, Option.map_some, hwp]
  refine ⟨by omega, ?_⟩
  have er : List.take 8 ((t.regs.map dI).set a.toNat (.int .i64 v)) = (t.regs.set a.toNat v).map dI := by
    rw [List.map_set, List.take_of_length_le (by simp; omega)]; rfl
  refine Weak.close [1] 1 (by simp) ?_ (by simp [tget, sealF, V.lower, lowerL]) (by simp [Blk.lower, lowerL, V.lower])
  simp [sealH, sealB, sealF, freeze, hput, hget, Blk.ice, er, putT]

theorem r_x_store (t : Ty) (h : List (Bool × Int)) (r : List (Int × Int)) (x : St) (hl : h.length ≤ 1000000) (htl : x.t.length ≤ 1000000) (h1 : t.log.1.length ≤ 1000000) (h2 : t.log.2.length ≤ 1000000) (hpc : 0 ≤ t.pc ∧ t.pc ≤ 1000000) :
    RSpec Tryz.prog 116 [.ptr 0 0 0, .d (dS x)] [bX t h r] (.tuple []) [bX (storeT t x h) h r] := by
  refine RSpec.of_awp envOf_ok hmix Tryz.func116 rfl (fun args w => Tryz.call116 args w) (by simp [Tryz.f116]) ?_
  simp only [Tryz.f116]
  simp (maxSteps := 2000000) -implicitDefEqProofs only [zz, zE, evop, ev, tget, tput, V.isUndef, Ch.on, hput, V.cells, ↓reduceIte, reduceCtorEq, Nat.reduceLT, initV, dS]
  unfold bX
  refine wdraw_plan [⟨[], false, [11, 12], [], false⟩, ⟨[0], false, [11, 12], [], false⟩, ⟨[0, 1], false, [11, 12], [], false⟩, ⟨[0, 1, 2], false, [11, 12], [], false⟩, ⟨[], false, [7, 8, 9, 10], [0, 1, 2, 3], false⟩, ⟨[4], false, [7, 8, 9, 10], [0, 1, 2, 3], false⟩, ⟨[0, 1, 2, 3, 4, 5], true, [], [], false⟩, ⟨[0, 1, 2, 3, 4, 5, 6], true, [], [], false⟩, ⟨[0, 1, 2, 3, 4, 5, 6, 7], false, [15], [], false⟩, ⟨[0, 1, 2, 3, 4, 5, 6, 7], false, [4, 14], [8], false⟩, ⟨[0, 1, 2, 3, 4, 5, 6, 7, 8], false, [15], [9], false⟩, ⟨[0, 1, 2, 3, 4, 5, 6, 7, 8, 9, 10], true, [], [], false⟩] (by decide) ?_
  simp (maxSteps := 2000000) -implicitDefEqProofs only [zz, zE, evop, ev, ofVal, tget, tput, ok, V.isUndef, calleeOf, withArgs, hget, hput, D.cells, loadD, structAt, isPtr, Blk.width, ↓reduceIte, reduceCtorEq, Nat.reduceLT, Nat.reduceEqDiff, Nat.reduceAdd, Nat.reduceLeDiff]
  refine acall_flat (by first | rfl | (simp only [xports, xport, hget]; rfl)) (c_heap_Get h x.a hl) rfl ?_
  try simp (maxSteps := 2000000) -implicitDefEqProofs only [zz, zE, evop, ev, ofVal, tget, tput, ok, V.isUndef, intBin, Ch.on, calleeOf, withArgs, told, hget, hput, structAt, Blk.width, ↓reduceIte, reduceCtorEq, Nat.reduceLT, Nat.reduceEqDiff, Nat.reduceAdd, Nat.reduceSub, Nat.reduceLeDiff, nilTest]
  have hwp : IntKind.i64.wrap (t.pc + 1) = t.pc + 1 := by rw [wrap_in (by omega)]
  by_cases h0 : (heapGet h x.a).2 = 0
  case neg =>
    have e : ((heapGet h x.a).2 != 0) = true := by simpa using h0
    have hst : storeT t x h = endT t 4 x.a := by unfold storeT; rw [if_pos h0]
    rw [hst]
    have hr := r_x_end t h r 4 x.a
    unfold bX at hr
    simp (maxSteps := 2000000) -implicitDefEqProofs only [↓reduceIte, e]
    refine acall_ref [0] (hr) (by first | rfl | simp [renL, V.ren, frρ, renL_ds]) (by simp) rfl (by simp) (by simp) (by intro j hj; match j, hj with | 0, _ => exact ⟨by simp [hget], rfl⟩) ?_
    try simp (maxSteps := 2000000) -implicitDefEqProofs only [zz, tput, hput, resOf, resVs, ↓reduceIte, Nat.reduceLT, Nat.reduceAdd, Blk.ren, V.ren, renL, frameH, putL]
    exact Weak.trimsM 1 (by simp) rfl (by simp [tget, V.lower, lowerL]) (by simp [Blk.lower, lowerL, V.lower])
  have e : ((heapGet h x.a).2 != 0) = false := by simpa using h0
  have hn := not_not_intro h0
  have hst : storeT t x h = { t with log := (logPut t.log (x.a, tellT t h x.t)).1, pc := t.pc + 1 } := by unfold storeT; rw [if_neg hn]
  rw [hst]
  simp (maxSteps := 2000000) -implicitDefEqProofs only [zz, ↓reduceIte, e]
  refine wdraw_plan [⟨[], false, [22, 23, 24, 25, 26, 27, 28, 29, 30, 31, 32, 33, 34, 35, 36, 37, 38, 39, 40, 41], [], true⟩, ⟨[], false, [23, 29, 30, 31, 32, 33, 34, 35], [0], false⟩, ⟨[1], false, [23, 29, 30, 31, 32, 33, 34, 35], [0], false⟩, ⟨[1, 2], false, [23, 29, 30, 31, 32, 33, 34, 35], [0], false⟩, ⟨[1, 2, 3], false, [23, 29, 30, 31, 32, 33, 34, 35], [0], false⟩, ⟨[1, 2, 3, 4], false, [23, 29, 30, 31, 32, 33, 34, 35], [0], false⟩, ⟨[], false, [23, 24, 25, 26, 27, 28, 31, 32, 33, 34], [0, 1, 2, 3, 4, 5], false⟩, ⟨[6], false, [23, 24, 25, 26, 27, 28, 31, 32, 33, 34], [0, 1, 2, 3, 4, 5], false⟩, ⟨[], false, [23, 24, 25, 26, 27, 28, 29, 30, 32, 33], [0, 1, 2, 3, 4, 5, 6, 7], false⟩, ⟨[], false, [23, 24, 25, 26, 27, 28, 29, 30, 31], [0, 1, 2, 3, 4, 5, 6, 7, 8], false⟩, ⟨[9], false, [23, 24, 25, 26, 27, 28, 29, 30, 31], [0, 1, 2, 3, 4, 5, 6, 7, 8], false⟩, ⟨[8, 9, 10], false, [23, 24, 25, 26, 27, 28, 29, 30], [0, 1, 2, 3, 4, 5, 6, 7], false⟩, ⟨[6, 7, 8, 9, 10, 11], false, [23, 24, 25, 26, 27, 28], [0, 1, 2, 3, 4, 5], false⟩, ⟨[1, 2, 3, 4, 5, 6, 7, 8, 9, 10, 11, 12], true, [23], [], false⟩, ⟨[1, 2, 3, 4, 5, 6, 7, 8, 9, 10, 11, 12, 13], false, [23], [0], false⟩, ⟨[1, 2, 3, 4, 5, 6, 7, 8, 9, 10, 11, 12, 13, 14], false, [23, 38], [0], false⟩, ⟨[1, 2, 3, 4, 5, 6, 7, 8, 9, 10, 11, 12, 13, 14], false, [23, 37, 38, 39, 40, 41], [0, 15], true⟩, ⟨[0, 1, 2, 3, 4, 5, 6, 7, 8, 9, 10, 11, 12, 13, 14, 15], false, [38], [16], false⟩, ⟨[0, 1, 2, 3, 4, 5, 6, 7, 8, 9, 10, 11, 12, 13, 14, 15, 17], false, [38], [16], false⟩, ⟨[0, 1, 2, 3, 4, 5, 6, 7, 8, 9, 10, 11, 12, 13, 14, 15, 17, 18], false, [38], [16], false⟩, ⟨[0, 1, 2, 3, 4, 5, 6, 7, 8, 9, 10, 11, 12, 13, 14, 15, 17, 18, 19], true, [38], [], false⟩] (by decide) ?_
  simp (maxSteps := 2000000) -implicitDefEqProofs only [zz, zE, evop, ev, ofVal, tget, tput, ok, V.isUndef, calleeOf, withArgs, hget, hput, V.cells, D.cells, loadD, structAt, partsV, isPtr, Blk.width, splice, ↓reduceIte, reduceCtorEq, Nat.reduceLT, Nat.reduceEqDiff, Nat.reduceAdd, Nat.reduceLeDiff]
  have hr := r_x_tell t h r x.t hl htl
  unfold bX at hr
  refine dcall_ref0 [0] (hr) (fun k => by first | rfl | simp [renL, V.ren, frρ, renL_ds]) (fun k => rfl) (by simp) rfl (by intro j hj; match j, hj with | 0, _ => exact ⟨by simp [hget], by simp [hget, frρ], fun k => rfl⟩) ?_
  try simp (maxSteps := 2000000) -implicitDefEqProofs only [zz, ↓reduceIte, Nat.reduceAdd]
  have hp := c_W_Put t.log (x.a, tellT t h x.t) h1 h2
  unfold dLE at hp
  refine acall_ice (by first | rfl | (simp only [xports, xport, hget]; rfl)) (hp) ?_
  try simp (maxSteps := 2000000) -implicitDefEqProofs only [zz, zE, evop, ev, ofVal, tget, tput, ok, V.isUndef, intBin, Ch.on, tids, tidss, hget, hput, freeze, V.cells, D.cells, V.one, structAt, isPtr, Blk.width, splice, D.over, resOf, resVs, ↓reduceIte, reduceCtorEq, Nat.reduceLT, Nat.reduceEqDiff, Nat.reduceAdd, Nat.reduceSub, Nat.reduceLeDiff, nilTest, dLg]
  simp (maxSteps := 2000000) -implicitDefEqProofs only [hwp]
  exact Weak.trimsM 1 (by simp) rfl (by simp [tget, V.lower, lowerL]) (by simp [Blk.lower, lowerL, V.lower])
end Go.Proofs.YtjhfpabldidlgaaGreat.AM

/- A stepper: either, again. -/
set_option linter.all false
set_option maxRecDepth 100000
set_option maxHeartbeats 8000000
namespace Go.Proofs.YtjhfpabldidlgaaGreat.AM
open Go Go.RowKit

theorem okEl_Fr (l : List Fr) : ∀ e ∈ l.map dFr, okEl 4 e = true := by
  intro e he
  obtain ⟨w, _, rfl⟩ := List.mem_map.1 he
  rfl

theorem o_Clone_Fr (els : List D) (h1 : els.length * 48 ≤ 140737488355328) (h2 : ∀ e ∈ els, okEl 4 e = true) : FSpec Tryz.prog 176 [.vec els] (.own 0 0 els.length) [.dat false 4 els] := by
  refine FSpec.of_awp envOf_ok hmix Tryz.func176 rfl (fun args w => Tryz.call176 args w) (by simp [Tryz.f176]) ?_
  simp only [Tryz.f176]
  simp (maxSteps := 2000000) -implicitDefEqProofs only [zz, zE, evop, ev, ofVal, tget, tput, ok, V.isUndef, initT, Ch.on, told, hget, hput, V.cells, V.isAgg, V.clo, clos, sliceOf, partsD, elems, resOf, resV, resVs, ↓reduceIte, reduceCtorEq, Nat.reduceLT, Nat.reduceEqDiff, Nat.reduceMul, Nat.reduceLeDiff, nilTest]
  refine ⟨fun h => ?_, ⟨h1, h2⟩, ?_⟩
  · subst h
    refine Weak.pick [7] (by simp) (by simp) rfl (fun q hq => ?_) (fun i hi => ?_)
    · obtain rfl : q = _ := by simpa using hq
      exact .nils 0 4 rfl
    · obtain rfl : i = 0 := by simpa using hi
      exact .virt 4 rfl rfl
  · refine Weak.pick [1] (by simp) (by simp) rfl (fun q hq => ?_) (fun i hi => ?_)
    · obtain rfl : q = _ := by simpa using hq
      exact .same _
    · obtain rfl : i = 0 := by simpa using hi
      exact .dat false 4 els rfl rfl

theorem r_x_either (t : Ty) (h : List (Bool × Int)) (r : List (Int × Int)) (x : St) (h1 : t.log.1.length ≤ 1000000) (h2 : t.log.2.length ≤ 1000000) (hpc : 0 ≤ t.pc ∧ t.pc ≤ 1000000) (ha : 0 ≤ x.a ∧ x.a ≤ 1000) (hb : 0 ≤ x.b ∧ x.b ≤ 1000)
    (hf : t.frames.length ≤ 1000000) (hp : t.path.length ≤ 1000000) :
    RSpec Tryz.prog 119 [.ptr 0 0 0, .d (dS x)] [bX t h r] (.tuple []) [bX (eiT t x) h r] := by
  refine RSpec.of_awp envOf_ok hmix Tryz.func119 rfl (fun args w => Tryz.call119 args w) (by simp [Tryz.f119]) ?_
  simp only [Tryz.f119]
  simp (maxSteps := 2000000) -implicitDefEqProofs only [zz, zE, evop, ev, tget, tput, ok, V.isUndef, Ch.on, hget, hput, V.cells, isPtr, Blk.width, ↓reduceIte, reduceCtorEq, Nat.reduceLT, initV, dS]
  unfold bX
  simp (maxSteps := 2000000) -implicitDefEqProofs only [zz, zE, evop, ev, tget, tput, ok, Ch.on, calleeOf, withArgs, hget, structAt, Blk.width, ↓reduceIte, reduceCtorEq, Nat.reduceLT, Nat.reduceAdd, Nat.reduceLeDiff]
  have w1 : IntKind.i64.wrap (t.pc + 1) = t.pc + 1 := by rw [wrap_in (by omega)]
  have w2 : IntKind.i64.wrap (t.pc + 1 + x.a) = t.pc + 1 + x.a := by rw [wrap_in (by omega)]
  have w3 : IntKind.i64.wrap (t.pc + 1 + x.a + x.b) = t.pc + 1 + x.a + x.b := by rw [wrap_in (by omega)]
  have hm := c_W_Mark t.log h1 h2
  unfold dLE at hm
  refine acall_ice (by first | rfl | (simp only [xports, xport, hget]; rfl)) (hm) ?_
  try simp (maxSteps := 2000000) -implicitDefEqProofs only [zz, zE, evop, ev, tget, tput, ok, V.isUndef, Ch.on, tids, tidss, hget, hput, freeze, V.cells, V.one, structAt, isPtr, Blk.width, splice, ↓reduceIte, reduceCtorEq, Nat.reduceLT, Nat.reduceEqDiff, Nat.reduceAdd, Nat.reduceLeDiff, dLg]
  refine wdraw_plan [⟨[], false, [24, 25], [], false⟩, ⟨[0], false, [24, 25], [], false⟩, ⟨[0, 1], false, [24, 25], [], false⟩, ⟨[0, 1, 2], false, [24, 25], [], false⟩, ⟨[0, 1, 2, 3], false, [24, 25], [], false⟩, ⟨[0, 1, 2, 3, 4], false, [24, 25], [], false⟩, ⟨[], false, [18, 19, 20, 21, 22, 23], [0, 1, 2, 3, 4, 5], false⟩, ⟨[6], false, [18, 19, 20, 21, 22, 23], [0, 1, 2, 3, 4, 5], false⟩, ⟨[0, 1, 2, 3, 4, 5, 6, 7], true, [], [], false⟩, ⟨[0, 1, 2, 3, 4, 5, 6, 7, 8], true, [], [], false⟩] (by decide) ?_
  simp (maxSteps := 2000000) -implicitDefEqProofs only [zz, zE, evop, ev, ofVal, tget, tput, ok, V.isUndef, intBin, Ch.on, hget, hput, V.cells, D.cells, V.isAgg, loadD, structAt, isPtr, Blk.width, ↓reduceIte, reduceCtorEq, Nat.reduceLT, Nat.reduceEqDiff, Nat.reduceAdd, Nat.reduceLeDiff, w1, w2]
  refine wdraw_plan [⟨[], false, [27, 28, 29, 30, 31, 32, 33, 34, 35, 36, 37, 38, 39, 40, 41, 42, 43, 44, 45, 46, 47, 48, 49, 50, 51, 52, 53, 54, 55], [], true⟩, ⟨[], false, [27, 34, 35, 36, 37, 38, 39, 40, 41, 42, 43, 44, 45, 46, 47, 48, 49, 50, 51], [0], false⟩, ⟨[1], false, [27, 34, 35, 36, 37, 38, 39, 40, 41, 42, 43, 44, 45, 46, 47, 48, 49, 50, 51], [0], false⟩, ⟨[1, 2], false, [27, 34, 35, 36, 37, 38, 39, 40, 41, 42, 43, 44, 45, 46, 47, 48, 49, 50, 51], [0], false⟩, ⟨[1, 2, 3], false, [27, 34, 35, 36, 37, 38, 39, 40, 41, 42, 43, 44, 45, 46, 47, 48, 49, 50, 51], [0], false⟩, ⟨[1, 2, 3, 4], false, [27, 34, 35, 36, 37, 38, 39, 40, 41, 42, 43, 44, 45, 46, 47, 48, 49, 50, 51], [0], false⟩, ⟨[1, 2, 3, 4, 5], false, [27, 34, 35, 36, 37, 38, 39, 40, 41, 42, 43, 44, 45, 46, 47, 48, 49, 50, 51], [0], false⟩, ⟨[], false, [27, 28, 29, 30, 31, 32, 33, 35, 36, 37, 38, 39, 40, 41, 42, 43, 44, 45, 46, 47, 48, 49], [0, 1, 2, 3, 4, 5, 6], false⟩, ⟨[], false, [27, 28, 29, 30, 31, 32, 33, 34, 36, 37, 39, 40, 41, 42, 43, 44, 45, 46, 47, 48, 49], [0, 1, 2, 3, 4, 5, 6, 7], false⟩, ⟨[], false, [27, 28, 29, 30, 31, 32, 33, 34, 35, 39, 40, 41, 42, 43, 44, 45, 46, 47, 48, 49], [0, 1, 2, 3, 4, 5, 6, 7, 8], false⟩, ⟨[9], false, [27, 28, 29, 30, 31, 32, 33, 34, 35, 39, 40, 41, 42, 43, 44, 45, 46, 47, 48, 49], [0, 1, 2, 3, 4, 5, 6, 7, 8], false⟩, ⟨[8, 9, 10], false, [27, 28, 29, 30, 31, 32, 33, 34, 39, 40, 41, 42, 43, 44, 45, 46, 47, 48, 49], [0, 1, 2, 3, 4, 5, 6, 7], false⟩, ⟨[], false, [27, 28, 29, 30, 31, 32, 33, 34, 35, 36, 37, 38, 45, 46, 47, 48, 49], [0, 1, 2, 3, 4, 5, 6, 7, 8, 9, 10, 11], false⟩, ⟨[12], false, [27, 28, 29, 30, 31, 32, 33, 34, 35, 36, 37, 38, 45, 46, 47, 48, 49], [0, 1, 2, 3, 4, 5, 6, 7, 8, 9, 10, 11], false⟩, ⟨[12, 13], false, [27, 28, 29, 30, 31, 32, 33, 34, 35, 36, 37, 38, 45, 46, 47, 48, 49], [0, 1, 2, 3, 4, 5, 6, 7, 8, 9, 10, 11], false⟩, ⟨[12, 13, 14], false, [27, 28, 29, 30, 31, 32, 33, 34, 35, 36, 37, 38, 45, 46, 47, 48, 49], [0, 1, 2, 3, 4, 5, 6, 7, 8, 9, 10, 11], false⟩, ⟨[12, 13, 14, 15], false, [27, 28, 29, 30, 31, 32, 33, 34, 35, 36, 37, 38, 45, 46, 47, 48, 49], [0, 1, 2, 3, 4, 5, 6, 7, 8, 9, 10, 11], false⟩, ⟨[12, 13, 14, 15, 16], false, [27, 28, 29, 30, 31, 32, 33, 34, 35, 36, 37, 38, 45, 46, 47, 48, 49], [0, 1, 2, 3, 4, 5, 6, 7, 8, 9, 10, 11], false⟩, ⟨[], false, [27, 28, 29, 30, 31, 32, 33, 34, 35, 36, 37, 38, 39, 40, 41, 42, 43, 44], [0, 1, 2, 3, 4, 5, 6, 7, 8, 9, 10, 11, 12, 13, 14, 15, 16, 17], false⟩, ⟨[18], false, [27, 28, 29, 30, 31, 32, 33, 34, 35, 36, 37, 38, 39, 40, 41, 42, 43, 44], [0, 1, 2, 3, 4, 5, 6, 7, 8, 9, 10, 11, 12, 13, 14, 15, 16, 17], false⟩, ⟨[18, 19], false, [27, 28, 29, 30, 31, 32, 33, 34, 35, 36, 37, 38, 39, 40, 41, 42, 43, 44], [0, 1, 2, 3, 4, 5, 6, 7, 8, 9, 10, 11, 12, 13, 14, 15, 16, 17], false⟩, ⟨[18, 19, 20], false, [27, 28, 29, 30, 31, 32, 33, 34, 35, 36, 37, 38, 39, 40, 41, 42, 43, 44], [0, 1, 2, 3, 4, 5, 6, 7, 8, 9, 10, 11, 12, 13, 14, 15, 16, 17], false⟩, ⟨[18, 19, 20, 21], false, [27, 28, 29, 30, 31, 32, 33, 34, 35, 36, 37, 38, 39, 40, 41, 42, 43, 44], [0, 1, 2, 3, 4, 5, 6, 7, 8, 9, 10, 11, 12, 13, 14, 15, 16, 17], false⟩, ⟨[7, 8, 9, 10, 11, 12, 13, 14, 15, 16, 17, 18, 19, 20, 21, 22], false, [27, 28, 29, 30, 31, 32, 33], [0, 1, 2, 3, 4, 5, 6], false⟩, ⟨[7, 8, 9, 10, 11, 12, 13, 14, 15, 16, 17, 18, 19, 20, 21, 22, 23], false, [27, 28, 29, 30, 31, 32, 33], [0, 1, 2, 3, 4, 5, 6], false⟩, ⟨[1, 2, 3, 4, 5, 6, 7, 8, 9, 10, 11, 12, 13, 14, 15, 16, 17, 18, 19, 20, 21, 22, 23, 24], true, [27], [], false⟩, ⟨[0, 1, 2, 3, 4, 5, 6, 7, 8, 9, 10, 11, 12, 13, 14, 15, 16, 17, 18, 19, 20, 21, 22, 23, 24, 25], true, [], [], false⟩, ⟨[0, 1, 2, 3, 4, 5, 6, 7, 8, 9, 10, 11, 12, 13, 14, 15, 16, 17, 18, 19, 20, 21, 22, 23, 24, 25, 26], true, [], [], false⟩, ⟨[0, 1, 2, 3, 4, 5, 6, 7, 8, 9, 10, 11, 12, 13, 14, 15, 16, 17, 18, 19, 20, 21, 22, 23, 24, 25, 26, 27], true, [], [], false⟩, ⟨[0, 1, 2, 3, 4, 5, 6, 7, 8, 9, 10, 11, 12, 13, 14, 15, 16, 17, 18, 19, 20, 21, 22, 23, 24, 25, 26, 27, 28], true, [], [], false⟩] (by decide) ?_
  simp (maxSteps := 2000000) -implicitDefEqProofs only [zz, zE, evop, ev, ofVal, tget, tput, ok, V.isUndef, intBin, calleeOf, withArgs, hget, hput, V.cells, D.cells, V.isAgg, V.one, V.clo, clos, V.toD, loadD, structAt, sliceOf, partsD, partsV, isPtr, Blk.width, elems, lenOf, splice, ↓reduceIte, reduceCtorEq, Nat.reduceLT, Nat.reduceEqDiff, Nat.reduceAdd, Nat.reduceMul, Nat.reduceLeDiff, w3]
  have hcf := o_Clone_Fr (t.frames.map dFr) (by simp; omega) (okEl_Fr _)
  rw [List.length_map] at hcf
  refine dcall_own (by first | rfl | (simp only [xports, xport, hget]; rfl)) (hcf) rfl ?_
  try simp (maxSteps := 2000000) -implicitDefEqProofs only [zz, zE, evop, ev, tget, tput, ok, V.isUndef, Ch.on, calleeOf, withArgs, hget, hput, V.cells, V.one, structAt, isPtr, Blk.width, splice, ↓reduceIte, reduceCtorEq, Nat.reduceLT, Nat.reduceEqDiff, Nat.reduceAdd, Nat.reduceLeDiff, V.ren]
  refine ⟨⟨by omega, okEl_Fr [⟨t.pc + 1 + x.a, t.pc + 1 + x.a + x.b, t.path.length, t.regs⟩]⟩, ?_⟩
  have hci := o_Clone_int (t.path.map dI) (by simp; omega) (okEl_I _)
  rw [List.length_map] at hci
  refine acall_own (by first | rfl | (simp only [xports, xport, hget]; rfl)) (hci) ?_
  try simp (maxSteps := 2000000) -implicitDefEqProofs only [zz, zE, evop, ev, ofVal, tget, tput, ok, V.isUndef, intBin, Ch.on, tids, tidss, hget, hput, freeze, V.cells, D.cells, V.one, V.toD, structAt, sliceOf, partsD, isPtr, Blk.width, elems, splice, resOf, resVs, ↓reduceIte, reduceCtorEq, Nat.reduceLT, Nat.reduceEqDiff, Nat.reduceAdd, Nat.reduceMul, Nat.reduceLeDiff, nilTest, shiftH, Blk.ren, V.ren]
  refine ⟨⟨by omega, okEl_I [1]⟩, ?_⟩
  rw [w1]
  have ht1 : List.take t.frames.length (t.frames.map dFr) = t.frames.map dFr := by rw [List.take_of_length_le]; simp
  have ht2 : List.take t.path.length (t.path.map dI) = t.path.map dI := by rw [List.take_of_length_le]; simp
  refine Weak.close [35, 38] 1 (by simp) ?_ (by simp [tget, sealF, V.lower, lowerL]) (by simp [Blk.lower, lowerL, V.lower])
  simp [sealH, sealB, sealF, freeze, hput, hget, Blk.ice, ht1, ht2, eiT, dFr, dI, List.take_of_length_le]

theorem r_x_again (t : Ty) (h : List (Bool × Int)) (r : List (Int × Int)) (h1 : t.log.1.length ≤ 1000000) (h2 : t.log.2.length ≤ 1000000) (hf : t.frames.length ≤ 1000000) (hp : t.path.length ≤ 1000000)
    (hfr : ∀ f, t.frames.getLast? = some f → 0 ≤ f.long ∧ f.long ≤ t.path.length) :
    RSpec Tryz.prog 117 [.ptr 0 0 0] [bX t h r] (.tuple []) [bX (agT t) h r] := by
  rcases Nat.eq_zero_or_pos t.frames.length with h0 | h0
  · have e : ((t.frames.length : Int) == 0) = true := by simp [h0]
    have hnil : t.frames = [] := List.length_eq_zero_iff.1 h0
    have hst : agT t = endT t 2 0 := by unfold agT; rw [hnil]; rfl
    rw [hst]
    have hr := r_x_end t h r 2 0
    unfold bX at hr
    refine RSpec.of_awp envOf_ok hmix Tryz.func117 rfl (fun args w => Tryz.call117 args w) (by simp [Tryz.f117]) ?_
    simp only [Tryz.f117]
    simp (maxSteps := 2000000) -implicitDefEqProofs only [zz, evop, ev, tget, tput, ok, V.isUndef, Ch.on, hget, isPtr, Blk.width, ↓reduceIte, Nat.reduceLT, initV]
    unfold bX
    simp (maxSteps := 2000000) -implicitDefEqProofs only [zz, zE, evop, ev, ofVal, tget, tput, ok, V.isUndef, intBin, Ch.on, calleeOf, withArgs, told, hget, structAt, sliceOf, Blk.width, lenOf, ↓reduceIte, reduceCtorEq, Nat.reduceLT, Nat.reduceAdd, nilTest, e]
    refine acall_ref [0] (hr) (by first | rfl | simp [renL, V.ren, frρ, renL_ds]) (by simp) rfl (by simp) (by simp) (by intro j hj; match j, hj with | 0, _ => exact ⟨by simp [hget], rfl⟩) ?_
    try simp (maxSteps := 2000000) -implicitDefEqProofs only [zz, tput, hput, resOf, resVs, ↓reduceIte, Nat.reduceLT, Blk.ren, V.ren, renL, frameH, putL]
    exact Weak.trimsM 1 (by simp) rfl (by simp [tget, V.lower, lowerL]) (by simp [Blk.lower, lowerL, V.lower])
  · have e : ((t.frames.length : Int) == 0) = false := by rw [beq_eq_false_iff_ne]; omega
    obtain ⟨f, hx⟩ : ∃ f, t.frames[t.frames.length - 1]? = some f := ⟨_, List.getElem?_eq_getElem (by omega)⟩
    have hgl : t.frames.getLast? = some f := by rw [List.getLast?_eq_getElem?]; exact hx
    obtain ⟨g1, g2⟩ := hfr f hgl
    have hst : agT t = { t with log := (logBack t.log).1, frames := t.frames.dropLast, regs := f.regs, pc := f.mid, path := t.path.take f.long.toNat ++ [2] } := by unfold agT; rw [hgl]
    rw [hst]
    have hwn : IntKind.i64.wrap ((t.frames.length : Int) - 1) = ((t.frames.length - 1 : Nat) : Int) := by rw [wrap_in (by omega)]; omega
    have hb := c_W_Back t.log h1 h2
    unfold dLE at hb
    refine RSpec.of_snd envOf_ok hmix Tryz.func117 rfl (fun args w => Tryz.call117 args w) (by simp [Tryz.f117]) ?_
    simp only [Tryz.f117]
    refine Snd.upto envOf_ok hmix 4 _ ?_
    simp only [hdN, tlN]
    simp (maxSteps := 2000000) -implicitDefEqProofs only [zz, evop, ev, tget, tput, ok, V.isUndef, Ch.on, hget, isPtr, Blk.width, ↓reduceIte, Nat.reduceLT, initV]
    unfold bX
    simp (maxSteps := 2000000) -implicitDefEqProofs only [zz, zE, evop, ev, ofVal, tget, tput, ok, V.isUndef, intBin, Ch.on, calleeOf, withArgs, told, hget, hput, V.cells, D.cells, V.one, loadD, structAt, sliceOf, isPtr, Blk.width, lenOf, splice, ↓reduceIte, reduceCtorEq, Nat.reduceLT, Nat.reduceEqDiff, Nat.reduceAdd, Nat.reduceLeDiff, nilTest, dFr, e, hwn, List.getElem?_map, hx, Option.map_some, Int.natCast_nonneg]
    refine acall_ice (by first | rfl | (simp only [xports, xport, hget]; rfl)) (hb) ?_
    try simp (maxSteps := 2000000) -implicitDefEqProofs only [zz, zE, evop, ev, tget, tput, ok, V.isUndef, Ch.on, tids, tidss, hget, hput, freeze, V.cells, V.one, structAt, isPtr, Blk.width, splice, ↓reduceIte, reduceCtorEq, Nat.reduceLT, Nat.reduceEqDiff, Nat.reduceAdd, Nat.reduceLeDiff, dLg, cutK_normal]
    refine Snd.weak (T' := [(3, .d (.imm (dFr f) 0)), (2, .d (.int .i64 t.frames.length)), (0, .ptr 0 0 0)]) (H' := [bX { t with log := (logBack t.log).1 } h r]) ?_ ?_
    · refine Weak.close [1] 1 (by simp) ?_ (by simp [tget, sealF, xport, xports, tids, tidss, hget, V.lower, dFr, dI]) (by simp [bX, Blk.lower, lowerL, V.lower])
      simp [sealH, sealB, sealF, freeze, hput, hget, Blk.ice, bX]
    refine Snd.of_awp envOf_ok hmix ?_
    have hdl : t.frames.dropLast = t.frames.take (t.frames.length - 1) := by rw [List.dropLast_eq_take]
    have er : List.take (((t.frames.length - 1 : Nat) : Int) - 0).toNat (t.frames.map dFr) = t.frames.dropLast.map dFr := by
      rw [hdl, List.map_take]; simp
    have ep : List.take (f.long - 0).toNat (t.path.map dI) = (t.path.take f.long.toNat).map dI := by
      rw [List.map_take]; simp
    unfold bX
    refine wdraw_plan [⟨[], false, [37, 38, 39, 40, 41, 42, 43, 44, 45, 46, 47, 48, 49, 50], [], false⟩, ⟨[], false, [36, 37, 38, 39, 40, 41, 42, 43, 44, 45, 46, 47, 48, 49, 50, 51, 52, 53, 54, 55, 56, 57, 58, 59], [0], true⟩, ⟨[], false, [36, 37, 38, 39, 40, 41, 42, 43, 44, 45, 46, 47, 48, 49, 50, 51, 52, 53, 54, 55, 56, 57, 58, 59], [0, 1], true⟩, ⟨[], false, [36, 37, 38, 44, 45, 47, 48, 49, 50], [0, 1, 2], false⟩, ⟨[3], false, [36, 37, 38, 44, 45, 47, 48, 49, 50], [0, 1, 2], false⟩, ⟨[3, 4], false, [36, 37, 38, 44, 45, 47, 48, 49, 50], [0, 1, 2], false⟩, ⟨[3, 4, 5], false, [36, 37, 38, 44, 45, 47, 48, 49, 50], [0, 1, 2], false⟩, ⟨[3, 4, 5, 6], false, [36, 37, 38, 44, 45, 47, 48, 49, 50], [0, 1, 2], false⟩, ⟨[], false, [36, 37, 38, 39, 40, 41, 42, 43, 47, 48, 49, 50], [0, 1, 2, 3, 4, 5, 6, 7], false⟩, ⟨[8], false, [36, 37, 38, 39, 40, 41, 42, 43, 47, 48, 49, 50], [0, 1, 2, 3, 4, 5, 6, 7], false⟩, ⟨[3, 4, 5, 6, 7, 8, 9], false, [36, 37, 38, 47, 48, 49, 50], [0, 1, 2], false⟩, ⟨[], false, [36, 37, 38, 39, 40, 41, 42, 43, 44, 45, 46, 47, 48, 49, 50, 51, 52, 53, 54, 55, 56, 57, 58, 59], [0, 1, 2, 3, 4, 5, 6, 7, 8, 9, 10], true⟩, ⟨[11], false, [36, 37, 38, 39, 40, 41, 42, 43, 44, 45, 46, 48, 49, 50, 51, 52, 53, 54, 55, 56, 57, 58, 59], [0, 1, 2, 3, 4, 5, 6, 7, 8, 9, 10], true⟩, ⟨[], false, [36, 37, 38, 39, 40, 41, 42, 43, 44, 45, 46, 47, 48, 49, 50, 51, 52, 53, 54, 55, 56, 57, 58, 59], [0, 1, 2, 3, 4, 5, 6, 7, 8, 9, 10, 11, 12], true⟩, ⟨[13], false, [36, 37, 38, 39, 40, 41, 42, 43, 44, 45, 46, 47, 48, 50, 51, 52, 53, 54, 55, 56, 57, 58, 59], [0, 1, 2, 3, 4, 5, 6, 7, 8, 9, 10, 11, 12], true⟩, ⟨[0, 3, 4, 5, 6, 7, 8, 9, 10], false, [37, 38, 47, 48, 49, 50], [1, 2, 11, 12, 13, 14], false⟩, ⟨[0, 3, 4, 5, 6, 7, 8, 9, 10, 15], false, [37, 38, 47, 48, 49, 50], [1, 2, 11, 12, 13, 14], false⟩, ⟨[0, 3, 4, 5, 6, 7, 8, 9, 10, 15, 16], false, [37, 38, 47, 48, 49, 50], [1, 2, 11, 12, 13, 14], false⟩, ⟨[0, 3, 4, 5, 6, 7, 8, 9, 10, 15, 16, 17], true, [37, 38, 47, 48, 49, 50], [], false⟩, ⟨[0, 1, 3, 4, 5, 6, 7, 8, 9, 10, 11, 12, 15, 16, 17, 18], false, [38, 49, 50], [2, 13, 14], false⟩, ⟨[0, 1, 3, 4, 5, 6, 7, 8, 9, 10, 11, 12, 15, 16, 17, 18, 19], false, [38, 49, 50], [2, 13, 14], false⟩, ⟨[0, 1, 3, 4, 5, 6, 7, 8, 9, 10, 11, 12, 15, 16, 17, 18, 19, 20], false, [38, 49, 50], [2, 13, 14], false⟩, ⟨[0, 1, 3, 4, 5, 6, 7, 8, 9, 10, 11, 12, 15, 16, 17, 18, 19, 20, 21], true, [38, 49, 50], [], false⟩, ⟨[0, 1, 2, 3, 4, 5, 6, 7, 8, 9, 10, 11, 12, 13, 14, 15, 16, 17, 18, 19, 20, 21, 22], true, [], [], false⟩, ⟨[0, 1, 2, 3, 4, 5, 6, 7, 8, 9, 10, 11, 12, 13, 14, 15, 16, 17, 18, 19, 20, 21, 22, 23], true, [], [], false⟩, ⟨[0, 1, 2, 3, 4, 5, 6, 7, 8, 9, 10, 11, 12, 13, 14, 15, 16, 17, 18, 19, 20, 21, 22, 23, 24], true, [], [], false⟩, ⟨[0, 1, 2, 3, 4, 5, 6, 7, 8, 9, 10, 11, 12, 13, 14, 15, 16, 17, 18, 19, 20, 21, 22, 23, 24, 25], true, [], [], false⟩] (by decide) ?_
    simp (maxSteps := 2000000) -implicitDefEqProofs only [zz, zE, evop, ev, ofVal, tget, tput, ok, V.isUndef, intBin, Ch.on, hget, hput, V.cells, D.cells, V.isAgg, V.one, V.clo, clos, loadD, structAt, sliceOf, bound, isPtr, Blk.width, lenOf, splice, D.over, ↓reduceIte, reduceCtorEq, Nat.reduceLT, Nat.reduceEqDiff, Nat.reduceAdd, Nat.reduceSub, Nat.reduceLeDiff, dFr, hwn, Int.natCast_nonneg, er]
    refine ⟨⟨Int.le_refl _, by omega, okCells_Fr _⟩, ?_⟩
    refine wdraw_plan [⟨[], false, [60, 61, 62, 63, 64, 65, 66, 67, 68, 69, 70, 71, 72, 73, 74], [], true⟩, ⟨[], false, [60, 66, 67, 70], [0], false⟩, ⟨[1], false, [60, 66, 67, 70], [0], false⟩, ⟨[1, 2], false, [60, 66, 67, 70], [0], false⟩, ⟨[1, 2, 3], false, [60, 66, 67, 70], [0], false⟩, ⟨[1, 2, 3, 4], false, [60, 66, 67, 70], [0], false⟩, ⟨[], false, [60, 61, 62, 63, 64, 65, 70], [0, 1, 2, 3, 4, 5], false⟩, ⟨[6], false, [60, 61, 62, 63, 64, 65, 70], [0, 1, 2, 3, 4, 5], false⟩, ⟨[1, 2, 3, 4, 5, 6, 7], false, [60, 70], [0], false⟩, ⟨[1, 2, 3, 4, 5, 6, 7, 8], false, [60, 70], [0], false⟩, ⟨[], false, [60, 61, 62, 63, 64, 65, 66, 67, 68, 69], [0, 1, 2, 3, 4, 5, 6, 7, 8, 9], false⟩, ⟨[1, 2, 3, 4, 5, 6, 7, 8, 9, 10], true, [60], [], false⟩, ⟨[0, 1, 2, 3, 4, 5, 6, 7, 8, 9, 10, 11], true, [], [], false⟩, ⟨[0, 1, 2, 3, 4, 5, 6, 7, 8, 9, 10, 11, 12], true, [], [], false⟩, ⟨[0, 1, 2, 3, 4, 5, 6, 7, 8, 9, 10, 11, 12, 13], true, [], [], false⟩, ⟨[0, 1, 2, 3, 4, 5, 6, 7, 8, 9, 10, 11, 12, 13, 14], true, [], [], false⟩] (by decide) ?_
    simp (maxSteps := 2000000) -implicitDefEqProofs only [zz, zE, evop, ev, ofVal, tget, tput, ok, V.isUndef, calleeOf, withArgs, hget, hput, V.cells, D.cells, V.one, V.toD, loadD, structAt, sliceOf, partsD, bound, isPtr, Blk.width, elems, lenOf, ↓reduceIte, reduceCtorEq, Nat.reduceLT, Nat.reduceEqDiff, Nat.reduceAdd, Nat.reduceMul, Nat.reduceLeDiff, ep]
    refine ⟨⟨Int.le_refl _, g1, g2, by intro e he; obtain ⟨w, _, rfl⟩ := List.mem_map.1 he; rfl⟩, ?_⟩
    have hci := o_Clone_int ((t.path.take f.long.toNat).map dI) (by simp; omega) (okEl_I _)
    rw [List.length_map] at hci
    refine dcall_own (by first | rfl | (simp only [xports, xport, hget]; rfl)) (hci) rfl ?_
    try simp (maxSteps := 2000000) -implicitDefEqProofs only [zz, zE, evop, ev, tget, tput, ok, Ch.on, hget, hput, V.cells, V.one, structAt, isPtr, Blk.width, splice, resOf, resVs, ↓reduceIte, reduceCtorEq, Nat.reduceLT, Nat.reduceEqDiff, Nat.reduceAdd, Nat.reduceLeDiff, V.ren]
    refine ⟨⟨by rw [List.length_take]; omega, okEl_I [2]⟩, ?_⟩
    have ht : List.take (List.take f.long.toNat t.path).length (List.map dI (List.take f.long.toNat t.path)) = List.map dI (List.take f.long.toNat t.path) := by rw [List.take_of_length_le]; simp
    rw [ht]
    refine Weak.close [33] 1 (by simp) ?_ (by simp [tget, sealF, V.lower, lowerL]) (by simp [Blk.lower, lowerL, V.lower])
    simp only [sealH, freeze, hput, hget, Blk.ice, List.map_cons, List.map_nil, sealB, sealF, List.take_succ_cons, List.take_zero, List.mem_singleton, if_true, List.drop_zero]
    rw [List.take_of_length_le (by simp)]
    simp [dI]
end Go.Proofs.YtjhfpabldidlgaaGreat.AM

/- How a try has ended; equal ones are the same; tries, codes and ends as the document's. -/
set_option linter.all false
set_option maxRecDepth 100000
set_option maxHeartbeats 8000000
namespace Go.Proofs.YtjhfpabldidlgaaGreat.AM
open Go Go.RowKit

/-- An end. -/
structure Oy where
  kind : Int
  why : Int
  regs : List Int
  path : List Int
  seen : List Int
  writes : List (Int × Int)
def oyC (o : Oy) : List D := [.int .i64 o.kind, .int .i64 o.why, .vec (o.regs.map dI), .vec (o.path.map dI), .vec (o.seen.map dI), .vec (o.writes.map dW)]
def dO (o : Oy) : D := .agg (oyC o)
def outT (t : Ty) : Oy := if t.kind = 1 then ⟨t.kind, t.why, t.regs, t.path, srtC t.reads, lastW t.log.1⟩ else ⟨t.kind, t.why, [], [], srtC t.reads, []⟩

theorem c_attempt_Out (t : Ty) (hl : t.reads.length ≤ 1000000) (hr : readsR t.reads = true) (hg : logR t.log = true) : CSpec Tryz.prog 24 [dT t] (dO (outT t)) := by
  refine CSpec.of_awp envOf_ok hmix Tryz.func24 rfl (fun args w => Tryz.call24 args w) (by simp [Tryz.f24]) ?_
  simp only [Tryz.f24]
  simp (maxSteps := 2000000) -implicitDefEqProofs only [zz, zE, evop, ev, tget, V.isUndef, initT, V.cells, ↓reduceIte]
  unfold dT tyC
  simp (maxSteps := 2000000) -implicitDefEqProofs only [zz, zE, evop, tput, Ch.on, hput, ↓reduceIte, Nat.reduceLT]
  refine wdraw_plan [⟨[], false, [3, 6, 7, 8, 9, 10], [], false⟩, ⟨[0], false, [3, 6, 7, 8, 9, 10], [], false⟩, ⟨[], false, [3, 4, 5, 8, 9, 10], [0, 1], false⟩, ⟨[2], false, [3, 4, 5, 8, 9, 10], [0, 1], false⟩, ⟨[], false, [3, 4, 5, 6, 7], [0, 1, 2, 3], false⟩, ⟨[4], false, [3, 4, 5, 6, 7], [0, 1, 2, 3], false⟩, ⟨[4, 5], false, [3, 4, 5, 6, 7], [0, 1, 2, 3], false⟩, ⟨[0, 1, 2, 3, 4, 5, 6], false, [3], [], false⟩, ⟨[], false, [4, 5, 6, 7, 8, 9, 10, 11], [0, 1, 2, 3, 4, 5, 6, 7], false⟩, ⟨[0, 1, 2, 3, 4, 5, 6, 7, 8], true, [], [], false⟩] (by decide) ?_
  simp (maxSteps := 2000000) -implicitDefEqProofs only [zz, zE, evop, ev, ofVal, tget, tput, ok, V.isUndef, calleeOf, withArgs, hget, hput, V.cells, D.cells, loadD, structAt, partsV, Blk.width, splice, D.over, ↓reduceIte, reduceCtorEq, Nat.reduceLT, Nat.reduceEqDiff, Nat.reduceAdd, Nat.reduceLeDiff]
  have h1 := c_reads_Cells t.reads hl hr
  refine dcall_still (by first | rfl | (simp only [xports, xport, hget]; rfl)) (h1) rfl ?_
  try simp (maxSteps := 2000000) -implicitDefEqProofs only [zz, zE, evop, ev, ofVal, tget, tput, ok, V.isUndef, intBin, Ch.on, told, xport, xports, hget, hput, V.cells, V.one, structAt, Blk.width, splice, resOf, resV, resVs, ↓reduceIte, reduceCtorEq, Nat.reduceLT, Nat.reduceEqDiff, Nat.reduceAdd, Nat.reduceLeDiff, nilTest]
  have h2 := c_Last t.log
  rw [if_pos hg] at h2
  by_cases hk : t.kind = 1
  · have e : (t.kind == 1) = true := by simpa using hk
    have ho : outT t = ⟨t.kind, t.why, t.regs, t.path, srtC t.reads, lastW t.log.1⟩ := by unfold outT; rw [if_pos hk]
    rw [ho]
    unfold dO oyC
    simp (maxSteps := 2000000) -implicitDefEqProofs only [↓reduceIte, e]
    refine wdraw_weak (Weak.sealed (T' := [(1, .d (.imm (dT t) 0)), (3, .ptr 10 0 0), (2, .ptr 1 0 0)]) [0] (by simp [tget, sealF, xport, xports, tids, tidss, hget, dT, tyC])) [⟨[], false, [17, 18, 19, 20, 21], [], false⟩, ⟨[0], false, [17, 18, 19, 20, 21], [], false⟩, ⟨[], false, [15, 16, 17, 18, 19, 20, 21, 22, 23, 24], [0, 1], true⟩, ⟨[2], false, [15, 16, 18, 19, 20, 21, 22, 23, 24], [0, 1], true⟩, ⟨[], false, [15, 16, 17, 18, 22], [0, 1, 2, 3], false⟩, ⟨[4], false, [15, 16, 17, 18, 22], [0, 1, 2, 3], false⟩, ⟨[4, 5], false, [15, 16, 17, 18, 22], [0, 1, 2, 3], false⟩, ⟨[0, 1], false, [17, 18, 19, 20, 21], [2, 3, 4, 5, 6], false⟩, ⟨[0, 1, 4, 5, 6, 7], true, [17, 18], [], false⟩, ⟨[0, 1, 2, 3, 4, 5, 6, 7, 8], true, [], [], false⟩, ⟨[0, 1, 2, 3, 4, 5, 6, 7, 8, 9], true, [], [], false⟩, ⟨[0, 1, 2, 3, 4, 5, 6, 7, 8, 9, 10], true, [], [], false⟩, ⟨[0, 1, 2, 3, 4, 5, 6, 7, 8, 9, 10, 11], true, [], [], false⟩] (by decide) ?_
    simp only [sealH, AM.freeze, hput, hget, Blk.ice, List.map_cons, List.map_nil, sealB, sealF, List.mem_singleton, dT, tyC]
    simp (maxSteps := 2000000) -implicitDefEqProofs only [zz, zE, evop, ev, ofVal, tget, tput, ok, V.isUndef, Ch.on, calleeOf, withArgs, hget, hput, V.cells, D.cells, V.one, loadD, structAt, Blk.width, splice, D.over, ↓reduceIte, reduceCtorEq, Nat.reduceLT, Nat.reduceEqDiff, Nat.reduceAdd, Nat.reduceLeDiff]
    refine dcall_still (by first | rfl | (simp only [xports, xport, hget]; rfl)) (h2) rfl ?_
    try simp (maxSteps := 2000000) -implicitDefEqProofs only [zz, zE, evop, ev, tget, tput, ok, Ch.on, xport, xports, hget, hput, V.cells, V.one, splice, resOf, resV, resVs, ↓reduceIte, Nat.reduceLT, Nat.reduceEqDiff, Nat.reduceAdd, Nat.reduceLeDiff]
  · have e : (t.kind == 1) = false := by simpa using hk
    have ho : outT t = ⟨t.kind, t.why, [], [], srtC t.reads, []⟩ := by unfold outT; rw [if_neg hk]
    rw [ho]
    unfold dO oyC
    simp (maxSteps := 2000000) -implicitDefEqProofs only [zz, ↓reduceIte, e]

theorem c_r11_Out (t : Ty) (hl : t.reads.length ≤ 1000000) (hr : readsR t.reads = true) (hg : logR t.log = true) : CSpec Tryz.prog 25 [dT t] (dO (outT t)) := by
  have hlen := logR_len hg
  refine CSpec.of_awp envOf_ok hmix Tryz.func25 rfl (fun args w => Tryz.call25 args w) (by simp [Tryz.f25]) ?_
  simp only [Tryz.f25]
  simp (maxSteps := 2000000) -implicitDefEqProofs only [zz, zE, evop, ev, tget, V.isUndef, initT, V.cells, ↓reduceIte]
  unfold dT tyC
  simp (maxSteps := 2000000) -implicitDefEqProofs only [zz, zE, evop, tput, Ch.on, hput, ↓reduceIte, Nat.reduceLT]
  refine wdraw_plan [⟨[], false, [3, 6, 7, 8, 9, 10], [], false⟩, ⟨[0], false, [3, 6, 7, 8, 9, 10], [], false⟩, ⟨[], false, [3, 4, 5, 8, 9, 10], [0, 1], false⟩, ⟨[2], false, [3, 4, 5, 8, 9, 10], [0, 1], false⟩, ⟨[], false, [3, 4, 5, 6, 7], [0, 1, 2, 3], false⟩, ⟨[4], false, [3, 4, 5, 6, 7], [0, 1, 2, 3], false⟩, ⟨[4, 5], false, [3, 4, 5, 6, 7], [0, 1, 2, 3], false⟩, ⟨[0, 1, 2, 3, 4, 5, 6], false, [3], [], false⟩, ⟨[], false, [4, 5, 6, 7, 8, 9, 10, 11], [0, 1, 2, 3, 4, 5, 6, 7], false⟩, ⟨[0, 1, 2, 3, 4, 5, 6, 7, 8], true, [], [], false⟩] (by decide) ?_
  simp (maxSteps := 2000000) -implicitDefEqProofs only [zz, zE, evop, ev, ofVal, tget, tput, ok, V.isUndef, calleeOf, withArgs, hget, hput, V.cells, D.cells, loadD, structAt, partsV, Blk.width, splice, D.over, ↓reduceIte, reduceCtorEq, Nat.reduceLT, Nat.reduceEqDiff, Nat.reduceAdd, Nat.reduceLeDiff]
  have h1 := c_r05_Cells t.reads hl hr
  refine dcall_still (by first | rfl | (simp only [xports, xport, hget]; rfl)) (h1) rfl ?_
  try simp (maxSteps := 2000000) -implicitDefEqProofs only [zz, zE, evop, ev, ofVal, tget, tput, ok, V.isUndef, intBin, Ch.on, calleeOf, withArgs, told, xport, xports, hget, hput, V.cells, V.one, structAt, Blk.width, splice, resOf, resV, resVs, ↓reduceIte, reduceCtorEq, Nat.reduceLT, Nat.reduceEqDiff, Nat.reduceAdd, Nat.reduceLeDiff, nilTest]
  have h2 := c_r06_Last t.log (logR_nonneg hg) (by omega)
  by_cases hk : t.kind = 1
  · have e : (t.kind == 1) = true := by simpa using hk
    have ho : outT t = ⟨t.kind, t.why, t.regs, t.path, srtC t.reads, lastW t.log.1⟩ := by unfold outT; rw [if_pos hk]
    rw [ho]
    unfold dO oyC
    simp (maxSteps := 2000000) -implicitDefEqProofs only [↓reduceIte, e]
    refine acall_ice (by first | rfl | (simp only [xports, xport, hget]; rfl)) (h2) ?_
    try simp (maxSteps := 2000000) -implicitDefEqProofs only [zz, zE, evop, ev, tget, tput, ok, Ch.on, xport, xports, tids, tidss, hget, hput, freeze, V.cells, V.one, structAt, Blk.width, splice, resOf, resV, resVs, ↓reduceIte, reduceCtorEq, Nat.reduceLT, Nat.reduceEqDiff, Nat.reduceAdd, Nat.reduceLeDiff]
  · have e : (t.kind == 1) = false := by simpa using hk
    have ho : outT t = ⟨t.kind, t.why, [], [], srtC t.reads, []⟩ := by unfold outT; rw [if_neg hk]
    rw [ho]
    unfold dO oyC
    simp (maxSteps := 2000000) -implicitDefEqProofs only [zz, ↓reduceIte, e]

theorem c_law10_Ref (o : Oy) : CSpec Tryz.prog 23 [dO o] (dO o) := by
  refine CSpec.of_awp envOf_ok hmix Tryz.func23 rfl (fun args w => Tryz.call23 args w) (by simp [Tryz.f23]) ?_
  simp only [Tryz.f23]
  simp (maxSteps := 2000000) -implicitDefEqProofs only [zz, zE, evop, ev, tget, V.isUndef, initT, V.cells, ↓reduceIte]
  unfold dO oyC
  simp (maxSteps := 2000000) -implicitDefEqProofs only [zz, zE, evop, ev, tget, tput, ok, Ch.on, xport, xports, hget, hput, V.cells, V.one, splice, resOf, resV, resVs, ↓reduceIte, Nat.reduceLT, Nat.reduceEqDiff, Nat.reduceAdd, Nat.reduceLeDiff]

/-- Lists of such lengths. -/
theorem c_r10_Same (o : Oy) (h1 : o.regs.length ≤ 1000000) (h2 : o.path.length ≤ 1000000) (h3 : o.seen.length ≤ 1000000) (h4 : o.writes.length ≤ 1000000) : CSpec Tryz.prog 22 [dO o, dO o] (.bool true) := by
  have hn : ∀ l : List Int, l.length ≤ 1000000 → CSpec Tryz.prog 75 [.vec (l.map dI), .vec (l.map dI)] (.bool true) := fun l hl => by
    have := c_r10_numbers l l hl hl
    simpa using this
  refine CSpec.of_awp envOf_ok hmix Tryz.func22 rfl (fun args w => Tryz.call22 args w) (by simp [Tryz.f22]) ?_
  simp only [Tryz.f22]
  simp (maxSteps := 2000000) -implicitDefEqProofs only [zz, zE, evop, ev, tget, V.isUndef, initT, V.cells, ↓reduceIte]
  unfold dO oyC
  simp (maxSteps := 2000000) -implicitDefEqProofs only [zz, zE, evop, ev, ofVal, tget, tput, ok, V.isUndef, Ch.on, hput, V.cells, ↓reduceIte, reduceCtorEq, Nat.reduceLT, Nat.reduceEqDiff]
  refine wdraw_plan [⟨[], false, [11, 12, 14, 15, 16, 17, 19, 20, 21, 22], [], false⟩, ⟨[0], false, [11, 12, 14, 15, 16, 17, 19, 20, 21, 22], [], false⟩, ⟨[], false, [9, 10, 14, 15, 16, 17, 19, 20, 21, 22], [0, 1], false⟩, ⟨[2], false, [9, 10, 14, 15, 16, 17, 19, 20, 21, 22], [0, 1], false⟩, ⟨[0, 1, 2, 3], false, [14, 15, 16, 17, 19, 20, 21, 22], [], false⟩, ⟨[], false, [9, 10, 11, 12, 13, 16, 17, 19, 20, 21, 22], [0, 1, 2, 3, 4], false⟩, ⟨[5], false, [9, 10, 11, 12, 13, 16, 17, 19, 20, 21, 22], [0, 1, 2, 3, 4], false⟩, ⟨[], false, [9, 10, 11, 12, 13, 14, 15, 19, 20, 21, 22], [0, 1, 2, 3, 4, 5, 6], false⟩, ⟨[7], false, [9, 10, 11, 12, 13, 14, 15, 19, 20, 21, 22], [0, 1, 2, 3, 4, 5, 6], false⟩, ⟨[0, 1, 2, 3, 4, 5, 6, 7, 8], false, [19, 20, 21, 22], [], false⟩, ⟨[], false, [9, 10, 11, 12, 13, 14, 15, 16, 17, 18, 21, 22], [0, 1, 2, 3, 4, 5, 6, 7, 8, 9], false⟩, ⟨[10], false, [9, 10, 11, 12, 13, 14, 15, 16, 17, 18, 21, 22], [0, 1, 2, 3, 4, 5, 6, 7, 8, 9], false⟩, ⟨[], false, [9, 10, 11, 12, 13, 14, 15, 16, 17, 18, 19, 20], [0, 1, 2, 3, 4, 5, 6, 7, 8, 9, 10, 11], false⟩, ⟨[12], false, [9, 10, 11, 12, 13, 14, 15, 16, 17, 18, 19, 20], [0, 1, 2, 3, 4, 5, 6, 7, 8, 9, 10, 11], false⟩, ⟨[0, 1, 2, 3, 4, 5, 6, 7, 8, 9, 10, 11, 12, 13], true, [], [], false⟩, ⟨[0, 1, 2, 3, 4, 5, 6, 7, 8, 9, 10, 11, 12, 13, 14], true, [], [], false⟩, ⟨[0, 1, 2, 3, 4, 5, 6, 7, 8, 9, 10, 11, 12, 13, 14, 15], true, [], [], false⟩, ⟨[0, 1, 2, 3, 4, 5, 6, 7, 8, 9, 10, 11, 12, 13, 14, 15, 16], true, [], [], false⟩] (by decide) ?_
  simp (maxSteps := 2000000) -implicitDefEqProofs only [zz, zE, evop, ev, ofVal, tget, tput, ok, V.isUndef, calleeOf, withArgs, hget, hput, D.cells, loadD, structAt, Blk.width, ↓reduceIte, reduceCtorEq, Nat.reduceLT, Nat.reduceEqDiff, Nat.reduceAdd, Nat.reduceLeDiff]
  refine dcall_flat (by first | rfl | (simp only [xports, xport, hget]; rfl)) (hn o.regs h1) rfl ?_
  try skip
  refine dcall_flat (by first | rfl | (simp only [xports, xport, hget]; rfl)) (hn o.path h2) rfl ?_
  try skip
  refine acall_flat (by first | rfl | (simp only [xports, xport, hget]; rfl)) (hn o.seen h3) rfl ?_
  try simp (maxSteps := 2000000) -implicitDefEqProofs only [zz, zE, evop, ev, ofVal, tget, tput, ok, V.isUndef, intBin, guardOf, Ch.on, told, hget, structAt, sliceOf, Blk.width, lenOf, ↓reduceIte, reduceCtorEq, Nat.reduceLT, Nat.reduceEqDiff, Nat.reduceAdd, nilTest]
  try skip
  refine wloop_count o.writes.length (fun i => [(8, .d (.int .i64 i)), (2, .d (.imm (dO o) 0)), (3, .d (.imm (dO o) 0))]) (fun _ => []) (fun _ => True) trivial ?_ (fun i hi _ => ?_) (fun _ => ?_)
  · exact Weak.close [0, 1] 0 (by simp) rfl (by simp [tget, sealF, xport, xports, tids, tidss, hget, V.lower, dO, oyC]) (by simp)
  · have hx : o.writes[i]? = some o.writes[i] := List.getElem?_eq_getElem hi
    have h' : ((i : Int) < (o.writes.length : Int)) := by omega
    have hw : IntKind.i64.wrap ((i : Int) + 1) = ((i + 1 : Nat) : Int) := by rw [wrap_in (by omega)]; omega
    simp (maxSteps := 2000000) -implicitDefEqProofs only [zz, zE, evop, ev, tget, tput, ok, V.isUndef, intBin, Ch.on, told, D.cells, loadD, structAt, sliceOf, lenOf, ↓reduceIte, reduceCtorEq, Nat.reduceLT, Nat.reduceEqDiff, nilTest, dO, oyC, h']
    refine wdraw_plan [⟨[], false, [66, 69, 70, 71, 72, 73], [], false⟩, ⟨[0], false, [66, 69, 70, 71, 72, 73], [], false⟩, ⟨[], false, [64, 65, 69, 70, 71, 72, 73], [0, 1], false⟩, ⟨[0, 1, 2], false, [69, 70, 71, 72, 73], [], false⟩, ⟨[0, 1, 2, 3], false, [69, 70, 71, 72, 73], [], false⟩, ⟨[], false, [64, 65, 66, 67, 68, 71], [0, 1, 2, 3, 4], false⟩, ⟨[5], false, [64, 65, 66, 67, 68, 71], [0, 1, 2, 3, 4], false⟩, ⟨[], false, [64, 65, 66, 67, 68, 69, 70], [0, 1, 2, 3, 4, 5, 6], false⟩, ⟨[5, 6, 7], false, [64, 65, 66, 67, 68], [0, 1, 2, 3, 4], false⟩, ⟨[5, 6, 7, 8], false, [64, 65, 66, 67, 68], [0, 1, 2, 3, 4], false⟩, ⟨[0, 1, 2, 3, 4, 5, 6, 7, 8, 9], true, [], [], false⟩] (by decide) ?_
    simp (maxSteps := 2000000) -implicitDefEqProofs only [zz, zE, evop, ev, ofVal, tget, tput, ok, V.isUndef, intBin, Ch.on, told, hput, V.cells, D.cells, V.isAgg, V.clo, clos, loadD, structAt, eqCells, D.scalarEq, Blk.width, ↓reduceIte, reduceCtorEq, Nat.reduceLT, Nat.reduceEqDiff, Nat.reduceAdd, Nat.reduceLeDiff, nilTest, dW, List.getElem?_map, hx, Option.map_some, Int.natCast_nonneg, hw]
    exact Weak.trims 0 rfl (by simp [tget, V.lower, dO, oyC]) (by simp)
  · have h' : ¬ ((o.writes.length : Int) < (o.writes.length : Int)) := by omega
    simp (maxSteps := 2000000) -implicitDefEqProofs only [zz, zE, evop, ev, ofVal, tget, tput, ok, V.isUndef, intBin, Ch.on, told, xport, D.cells, loadD, structAt, sliceOf, lenOf, resOf, resV, resVs, ↓reduceIte, reduceCtorEq, Nat.reduceLT, Nat.reduceEqDiff, nilTest, dO, oyC, h']

theorem c_r11_Same (t : Ty) (h1 : t.regs.length ≤ 1000000) (h2 : t.path.length ≤ 1000000) (h3 : t.reads.length ≤ 1000000) (h4 : t.log.1.length ≤ 1000000) (h5 : t.log.2.length ≤ 1000000) (h6 : t.frames.length ≤ 1000000) (h7 : ∀ f ∈ t.frames, f.regs.length ≤ 1000000) : CSpec Tryz.prog 18 [dT t, dT t] (.bool true) := by
  have hn : ∀ l : List Int, l.length ≤ 1000000 → CSpec Tryz.prog 49 [.vec (l.map dI), .vec (l.map dI)] (.bool true) := fun l hl => by
    have := c_r03_Numbers l l hl hl
    simpa using this
  have hr : CSpec Tryz.prog 59 [.vec (t.reads.map dRd), .vec (t.reads.map dRd)] (.bool true) := by
    have := c_r05_Same t.reads t.reads h3 h3
    simpa using this
  have hg : CSpec Tryz.prog 60 [dLg t.log, dLg t.log] (.bool true) := by
    have := c_Same t.log t.log h4 h5 h4 h5
    simpa using this
  refine CSpec.of_awp envOf_ok hmix Tryz.func18 rfl (fun args w => Tryz.call18 args w) (by simp [Tryz.f18]) ?_
  simp only [Tryz.f18]
  simp (maxSteps := 2000000) -implicitDefEqProofs only [zz, zE, evop, ev, tget, V.isUndef, initT, V.cells, ↓reduceIte]
  unfold dT tyC
  simp (maxSteps := 2000000) -implicitDefEqProofs only [zz, zE, evop, ev, ofVal, tget, tput, ok, V.isUndef, Ch.on, hput, V.cells, ↓reduceIte, reduceCtorEq, Nat.reduceLT, Nat.reduceEqDiff]
  refine wdraw_plan [⟨[], false, [15, 16, 18, 19, 20, 21], [], false⟩, ⟨[0], false, [15, 16, 18, 19, 20, 21], [], false⟩, ⟨[], false, [13, 14, 18, 19, 20, 21], [0, 1], false⟩, ⟨[2], false, [13, 14, 18, 19, 20, 21], [0, 1], false⟩, ⟨[0, 1, 2, 3], false, [18, 19, 20, 21], [], false⟩, ⟨[], false, [13, 14, 15, 16, 17, 20, 21], [0, 1, 2, 3, 4], false⟩, ⟨[5], false, [13, 14, 15, 16, 17, 20, 21], [0, 1, 2, 3, 4], false⟩, ⟨[], false, [13, 14, 15, 16, 17, 18, 19], [0, 1, 2, 3, 4, 5, 6], false⟩, ⟨[7], false, [13, 14, 15, 16, 17, 18, 19], [0, 1, 2, 3, 4, 5, 6], false⟩, ⟨[0, 1, 2, 3, 4, 5, 6, 7, 8], true, [], [], false⟩, ⟨[0, 1, 2, 3, 4, 5, 6, 7, 8, 9], true, [], [], false⟩, ⟨[0, 1, 2, 3, 4, 5, 6, 7, 8, 9, 10], true, [], [], false⟩] (by decide) ?_
  simp (maxSteps := 2000000) -implicitDefEqProofs only [zz, zE, evop, ev, ofVal, tget, tput, ok, V.isUndef, calleeOf, withArgs, hget, hput, D.cells, loadD, structAt, Blk.width, ↓reduceIte, reduceCtorEq, Nat.reduceLT, Nat.reduceEqDiff, Nat.reduceAdd, Nat.reduceLeDiff]
  refine dcall_flat (by first | rfl | (simp only [xports, xport, hget]; rfl)) (hr) rfl ?_
  try skip
  refine acall_flat (by first | rfl | (simp only [xports, xport, hget]; rfl)) (hg) rfl ?_
  try simp (maxSteps := 2000000) -implicitDefEqProofs only [zz, evop, ev, tget, tput, ok, V.isUndef, Ch.on, ↓reduceIte, Nat.reduceLT, Nat.reduceEqDiff, Nat.reduceAdd]
  refine wdraw_plan [⟨[], false, [25, 26, 28, 29, 30, 31], [], false⟩, ⟨[0], false, [25, 26, 28, 29, 30, 31], [], false⟩, ⟨[], false, [23, 24, 28, 29, 30, 31], [0, 1], false⟩, ⟨[2], false, [23, 24, 28, 29, 30, 31], [0, 1], false⟩, ⟨[0, 1, 2, 3], false, [28, 29, 30, 31], [], false⟩, ⟨[], false, [23, 24, 25, 26, 27, 30, 31], [0, 1, 2, 3, 4], false⟩, ⟨[5], false, [23, 24, 25, 26, 27, 30, 31], [0, 1, 2, 3, 4], false⟩, ⟨[], false, [23, 24, 25, 26, 27, 28, 29], [0, 1, 2, 3, 4, 5, 6], false⟩, ⟨[7], false, [23, 24, 25, 26, 27, 28, 29], [0, 1, 2, 3, 4, 5, 6], false⟩, ⟨[0, 1, 2, 3, 4, 5, 6, 7, 8], true, [], [], false⟩, ⟨[0, 1, 2, 3, 4, 5, 6, 7, 8, 9], true, [], [], false⟩, ⟨[0, 1, 2, 3, 4, 5, 6, 7, 8, 9, 10], true, [], [], false⟩] (by decide) ?_
  simp (maxSteps := 2000000) -implicitDefEqProofs only [zz, zE, evop, ev, ofVal, tget, tput, ok, V.isUndef, calleeOf, withArgs, hget, hput, D.cells, loadD, structAt, Blk.width, ↓reduceIte, reduceCtorEq, Nat.reduceLT, Nat.reduceEqDiff, Nat.reduceAdd, Nat.reduceLeDiff]
  refine dcall_flat (by first | rfl | (simp only [xports, xport, hget]; rfl)) (hn t.regs h1) rfl ?_
  try skip
  refine acall_flat (by first | rfl | (simp only [xports, xport, hget]; rfl)) (hn t.path h2) rfl ?_
  try simp (maxSteps := 2000000) -implicitDefEqProofs only [zz, zE, evop, ev, ofVal, tget, tput, ok, V.isUndef, intBin, guardOf, Ch.on, told, hget, structAt, sliceOf, Blk.width, lenOf, ↓reduceIte, reduceCtorEq, Nat.reduceLT, Nat.reduceEqDiff, Nat.reduceAdd, nilTest]
  try skip
  refine wloop_count t.frames.length (fun i => [(9, .d (.int .i64 i)), (2, .d (.imm (dT t) 0)), (3, .d (.imm (dT t) 0))]) (fun _ => []) (fun _ => True) trivial ?_ (fun i hi _ => ?_) (fun _ => ?_)
  · exact Weak.close [0, 1] 0 (by simp) rfl (by simp [tget, sealF, xport, xports, tids, tidss, hget, V.lower, dT, tyC]) (by simp)
  · have hx : t.frames[i]? = some t.frames[i] := List.getElem?_eq_getElem hi
    have h' : ((i : Int) < (t.frames.length : Int)) := by omega
    have hw : IntKind.i64.wrap ((i : Int) + 1) = ((i + 1 : Nat) : Int) := by rw [wrap_in (by omega)]; omega
    simp (maxSteps := 2000000) -implicitDefEqProofs only [zz, zE, evop, ev, tget, tput, ok, V.isUndef, intBin, Ch.on, told, D.cells, loadD, structAt, sliceOf, lenOf, ↓reduceIte, reduceCtorEq, Nat.reduceLT, Nat.reduceEqDiff, nilTest, dT, tyC, h']
    refine wdraw_plan [⟨[], false, [10, 11, 65, 68, 69, 70, 71, 72], [], false⟩, ⟨[0], false, [10, 11, 65, 68, 69, 70, 71, 72], [], false⟩, ⟨[], false, [10, 11, 63, 64, 68, 69, 70, 71, 72], [0, 1], false⟩, ⟨[0, 1, 2], false, [10, 11, 68, 69, 70, 71, 72], [], false⟩, ⟨[0, 1, 2, 3], false, [10, 11, 68, 69, 70, 71, 72], [], false⟩, ⟨[], false, [10, 11, 63, 64, 65, 66, 67, 68, 69, 70, 71, 72], [0, 1, 2, 3, 4], true⟩, ⟨[5], false, [10, 11, 63, 64, 65, 66, 67, 69, 70, 71, 72], [0, 1, 2, 3, 4], true⟩, ⟨[], false, [10, 11, 63, 64, 65, 66, 67, 68, 69, 70, 71, 72], [0, 1, 2, 3, 4, 5, 6], true⟩, ⟨[5, 6, 7], false, [10, 11, 63, 64, 65, 66, 67, 71, 72], [0, 1, 2, 3, 4], true⟩, ⟨[5, 6, 7, 8], false, [10, 11, 63, 64, 65, 66, 67, 72], [0, 1, 2, 3, 4], true⟩, ⟨[], false, [11, 63, 64, 65, 66, 67, 68, 69, 70, 71, 72], [0, 1, 2, 3, 4, 5, 6, 7, 8, 9], false⟩, ⟨[], false, [10, 63, 64, 65, 66, 67, 68, 69, 70, 71, 72], [0, 1, 2, 3, 4, 5, 6, 7, 8, 9, 10], false⟩, ⟨[0, 1, 2, 3, 4, 10, 11], true, [68, 69, 70, 71, 72], [], false⟩, ⟨[0, 1, 2, 3, 4, 5, 6, 7, 8, 9, 10, 11, 12], true, [], [], false⟩] (by decide) ?_
    simp (maxSteps := 2000000) -implicitDefEqProofs only [zz, zE, evop, ev, tget, tput, ok, V.isUndef, Ch.on, calleeOf, withArgs, hget, hput, V.cells, D.cells, V.one, loadD, structAt, Blk.width, splice, D.over, ↓reduceIte, reduceCtorEq, Nat.reduceLT, Nat.reduceEqDiff, Nat.reduceAdd, Nat.reduceLeDiff, dFr, List.getElem?_map, hx, Option.map_some, Int.natCast_nonneg]
    refine acall_flat (by first | rfl | (simp only [xports, xport, hget]; rfl)) (hn t.frames[i].regs (h7 _ (List.getElem_mem hi))) rfl ?_
    try simp (maxSteps := 2000000) -implicitDefEqProofs only [zz, zE, evop, ev, ofVal, tget, tput, ok, V.isUndef, intBin, guardOf, Ch.on, told, hget, structAt, Blk.width, ↓reduceIte, reduceCtorEq, Nat.reduceLT, Nat.reduceEqDiff, Nat.reduceAdd, nilTest]
    simp (maxSteps := 2000000) -implicitDefEqProofs only [hw]
    exact Weak.trims 0 rfl (by simp [tget, V.lower, dT, tyC]) (by simp)
  · have h' : ¬ ((t.frames.length : Int) < (t.frames.length : Int)) := by omega
    simp (maxSteps := 2000000) -implicitDefEqProofs only [zz, zE, evop, ev, tget, tput, ok, V.isUndef, intBin, guardOf, Ch.on, told, xport, D.cells, loadD, structAt, sliceOf, lenOf, resOf, resV, resVs, ↓reduceIte, reduceCtorEq, Nat.reduceLT, Nat.reduceEqDiff, nilTest, dT, tyC, h']

theorem c_law11_Ref (t : Ty) (hf : t.frames.length ≤ 1000000) : CSpec Tryz.prog 19 [dT t] (dT t) := by
  refine CSpec.of_awp envOf_ok hmix Tryz.func19 rfl (fun args w => Tryz.call19 args w) (by simp [Tryz.f19]) ?_
  simp only [Tryz.f19]
  simp (maxSteps := 2000000) -implicitDefEqProofs only [zz, zE, evop, ev, tget, V.isUndef, initT, V.cells, ↓reduceIte]
  unfold dT tyC
  simp (maxSteps := 2000000) -implicitDefEqProofs only [zz, zE, evop, tput, Ch.on, hput, ↓reduceIte, Nat.reduceLT]
  refine wdraw_plan [⟨[], false, [3, 8, 9, 10, 11, 12, 13, 14, 15, 16, 17, 18, 19, 20, 21, 22, 23, 24], [], false⟩, ⟨[0], false, [3, 8, 9, 10, 11, 12, 13, 14, 15, 16, 17, 18, 19, 20, 21, 22, 23, 24], [], false⟩, ⟨[], false, [3, 6, 7, 10, 11, 12, 13, 14, 15, 16, 17, 18, 19, 20, 21, 22, 23, 24], [0, 1], false⟩, ⟨[2], false, [3, 6, 7, 10, 11, 12, 13, 14, 15, 16, 17, 18, 19, 20, 21, 22, 23, 24], [0, 1], false⟩, ⟨[], false, [3, 6, 7, 8, 9, 12, 13, 14, 15, 16, 17, 18, 19, 20, 21, 22, 23, 24], [0, 1, 2, 3], false⟩, ⟨[4], false, [3, 6, 7, 8, 9, 12, 13, 14, 15, 16, 17, 18, 19, 20, 21, 22, 23, 24], [0, 1, 2, 3], false⟩, ⟨[], false, [3, 6, 7, 8, 9, 10, 11, 14, 15, 16, 17, 18, 19, 20, 21, 22, 23, 24], [0, 1, 2, 3, 4, 5], false⟩, ⟨[6], false, [3, 6, 7, 8, 9, 10, 11, 14, 15, 16, 17, 18, 19, 20, 21, 22, 23, 24], [0, 1, 2, 3, 4, 5], false⟩, ⟨[], false, [3, 6, 7, 8, 9, 10, 11, 12, 13, 16, 17, 18, 19, 20, 21, 22, 23, 24], [0, 1, 2, 3, 4, 5, 6, 7], false⟩, ⟨[8], false, [3, 6, 7, 8, 9, 10, 11, 12, 13, 16, 17, 18, 19, 20, 21, 22, 23, 24], [0, 1, 2, 3, 4, 5, 6, 7], false⟩, ⟨[], false, [3, 6, 7, 8, 9, 10, 11, 12, 13, 14, 15, 18, 19, 20, 21, 22, 23, 24], [0, 1, 2, 3, 4, 5, 6, 7, 8, 9], false⟩, ⟨[10], false, [3, 6, 7, 8, 9, 10, 11, 12, 13, 14, 15, 18, 19, 20, 21, 22, 23, 24], [0, 1, 2, 3, 4, 5, 6, 7, 8, 9], false⟩, ⟨[], false, [3, 6, 7, 8, 9, 10, 11, 12, 13, 14, 15, 16, 17, 21, 22, 23, 24], [0, 1, 2, 3, 4, 5, 6, 7, 8, 9, 10, 11], false⟩, ⟨[12], false, [3, 6, 7, 8, 9, 10, 11, 12, 13, 14, 15, 16, 17, 21, 22, 23, 24], [0, 1, 2, 3, 4, 5, 6, 7, 8, 9, 10, 11], false⟩, ⟨[12, 13], false, [3, 6, 7, 8, 9, 10, 11, 12, 13, 14, 15, 16, 17, 21, 22, 23, 24], [0, 1, 2, 3, 4, 5, 6, 7, 8, 9, 10, 11], false⟩, ⟨[], false, [3, 6, 7, 8, 9, 10, 11, 12, 13, 14, 15, 16, 17, 18, 19, 20, 23, 24], [0, 1, 2, 3, 4, 5, 6, 7, 8, 9, 10, 11, 12, 13, 14], false⟩, ⟨[15], false, [3, 6, 7, 8, 9, 10, 11, 12, 13, 14, 15, 16, 17, 18, 19, 20, 23, 24], [0, 1, 2, 3, 4, 5, 6, 7, 8, 9, 10, 11, 12, 13, 14], false⟩, ⟨[], false, [3, 6, 7, 8, 9, 10, 11, 12, 13, 14, 15, 16, 17, 18, 19, 20, 21, 22], [0, 1, 2, 3, 4, 5, 6, 7, 8, 9, 10, 11, 12, 13, 14, 15, 16], false⟩, ⟨[17], false, [3, 6, 7, 8, 9, 10, 11, 12, 13, 14, 15, 16, 17, 18, 19, 20, 21, 22], [0, 1, 2, 3, 4, 5, 6, 7, 8, 9, 10, 11, 12, 13, 14, 15, 16], false⟩, ⟨[0, 1, 2, 3, 4, 5, 6, 7, 8, 9, 10, 11, 12, 13, 14, 15, 16, 17, 18], false, [3], [], false⟩, ⟨[], false, [6, 7, 8, 9, 10, 11, 12, 13, 14, 15, 16, 17, 18, 19, 20, 21, 22, 23, 24, 25], [0, 1, 2, 3, 4, 5, 6, 7, 8, 9, 10, 11, 12, 13, 14, 15, 16, 17, 18, 19], false⟩, ⟨[0, 1, 2, 3, 4, 5, 6, 7, 8, 9, 10, 11, 12, 13, 14, 15, 16, 17, 18, 19, 20], true, [], [], false⟩] (by decide) ?_
  simp (maxSteps := 2000000) -implicitDefEqProofs only [zz, zE, evop, ev, ofVal, tget, tput, ok, V.isUndef, calleeOf, withArgs, hget, hput, V.cells, D.cells, loadD, structAt, partsV, Blk.width, splice, D.over, ↓reduceIte, reduceCtorEq, Nat.reduceLT, Nat.reduceEqDiff, Nat.reduceAdd, Nat.reduceLeDiff]
  have h1 := c_Ref t.log
  refine dcall_still (by first | rfl | (simp only [xports, xport, hget]; rfl)) (h1) rfl ?_
  try simp (maxSteps := 2000000) -implicitDefEqProofs only [zz, zE, evop, ev, ofVal, tget, tput, ok, V.isUndef, Ch.on, hget, hput, V.one, structAt, sliceOf, Blk.width, lenOf, ↓reduceIte, reduceCtorEq, Nat.reduceLT, Nat.reduceEqDiff, Nat.reduceAdd, Nat.reduceLeDiff, dLg]
  refine wloop_count t.frames.length (fun i => [(29, .d (.int .i64 i)), (28, .d (.int .i64 t.frames.length)), (27, .d (.vec (t.frames.map dFr))), (2, .ptr 0 0 0), (3, .ptr 1 0 0)])
    (fun i => [bZ, .box false [.d (.int .i64 t.who), .d (.int .i64 t.snap), .d (.int .i64 t.pc), .d (.vec (t.regs.map dI)), .d (.vec (t.path.map dI)), .d (.vec (t.reads.map dRd)), .d (.vec (t.log.1.map dW)), .d (.vec (t.log.2.map dI)), .own 2 0 i, .d (.int .i64 t.kind), .d (.int .i64 t.why)], .dat false 4 ((t.frames.take i).map dFr)]) (fun _ => True) trivial ?_ (fun i hi _ => ?_) (fun _ => ?_)
  · refine Weak.pick [1, 22, 40] (by decide) (by simp) rfl (fun q hq => ?_) (fun i hi => ?_)
    · simp only [List.mem_cons, List.not_mem_nil, or_false] at hq
      rcases hq with rfl | rfl | rfl | rfl | rfl <;> exact .same _
    · match i, hi with
      | 0, _ => exact .box false _ _ rfl rfl (.cons (.same _) (.cons (.same _) (.cons (.same _) (.cons (.same _) (.cons (.same _) (.cons (.same _) (.cons (.same _) (.cons (.same _) (.cons (.same _) (.cons (.same _) (.cons (.same _) .nil)))))))))))
      | 1, _ => exact .box false _ _ rfl rfl (.cons (.same _) (.cons (.same _) (.cons (.same _) (.cons (.same _) (.cons (.same _) (.cons (.same _) (.cons (.same _) (.cons (.same _) (.cons (.nils 2 4 rfl) (.cons (.same _) (.cons (.same _) .nil)))))))))))
      | 2, _ => exact .virt 4 rfl rfl
      | i + 3, hi => exact absurd hi (by simp)
  · have hx : t.frames[i]? = some t.frames[i] := List.getElem?_eq_getElem hi
    have h' : ((i : Int) < (t.frames.length : Int)) := by omega
    have hw : IntKind.i64.wrap ((i : Int) + 1) = ((i + 1 : Nat) : Int) := by rw [wrap_in (by omega)]; omega
    have hT : t.frames.take (i + 1) = t.frames.take i ++ [t.frames[i]] := by rw [List.take_succ, hx]; rfl
    have e6 : List.take i ((t.frames.take i).map dFr) = (t.frames.take i).map dFr := by rw [List.take_of_length_le]; rw [List.length_map, List.length_take]; omega
    simp (maxSteps := 2000000) -implicitDefEqProofs only [zz, zE, evop, ev, ofVal, tget, tput, ok, V.isUndef, intBin, Ch.on, told, hget, hput, V.cells, D.cells, V.one, V.clo, clos, V.toD, loadD, structAt, sliceOf, partsD, Blk.width, elems, splice, ↓reduceIte, reduceCtorEq, Nat.reduceLT, Nat.reduceEqDiff, Nat.reduceAdd, Nat.reduceMul, Nat.reduceLeDiff, nilTest, dFr, bZ, h', List.getElem?_map, hx, Option.map_some, Int.natCast_nonneg, hw]
    refine ⟨⟨by omega, okEl_Fr [t.frames[i]]⟩, ?_⟩
    rw [hT, e6, List.map_append]
    refine Weak.pick [0, 1, 5] (by decide) (by simp) rfl (fun q hq => ?_) (fun i hi => ?_)
    · simp only [List.mem_cons, List.not_mem_nil, or_false] at hq
      rcases hq with rfl | rfl | rfl | rfl | rfl <;> exact .same _
    · match i, hi with
      | 0, _ => exact .box false _ _ rfl rfl (.cons (.same _) (.cons (.same _) (.cons (.same _) (.cons (.same _) (.cons (.same _) (.cons (.same _) (.cons (.same _) (.cons (.same _) (.cons (.same _) (.cons (.same _) (.cons (.same _) .nil)))))))))))
      | 1, _ => exact .box false _ _ rfl rfl (.cons (.same _) (.cons (.same _) (.cons (.same _) (.cons (.same _) (.cons (.same _) (.cons (.same _) (.cons (.same _) (.cons (.same _) (.cons (.same _) (.cons (.same _) (.cons (.same _) .nil)))))))))))
      | 2, _ => exact .dat _ _ _ rfl rfl
      | i + 3, hi => exact absurd hi (by simp)
  · have h' : ¬ ((t.frames.length : Int) < (t.frames.length : Int)) := by omega
    rw [List.take_length]
    simp (maxSteps := 2000000) -implicitDefEqProofs only [zz, zE, evop, ev, tget, tput, ok, intBin, Ch.on, told, xport, xports, hget, hput, V.cells, V.one, splice, resOf, resV, resVs, ↓reduceIte, Nat.reduceLT, Nat.reduceEqDiff, Nat.reduceAdd, Nat.reduceLeDiff, nilTest, bZ, h']
    rw [List.take_of_length_le (by simp)]
end Go.Proofs.YtjhfpabldidlgaaGreat.AM

/- A stepper loads. -/
set_option linter.all false
set_option maxRecDepth 100000
set_option maxHeartbeats 8000000
namespace Go.Proofs.YtjhfpabldidlgaaGreat.AM
open Go Go.RowKit

theorem r_x_load (t : Ty) (h : List (Bool × Int)) (r : List (Int × Int)) (x : St) (hl : h.length ≤ 1000000) (htb : tableR r = true) (hreg : t.regs.length = 8) (ha : 0 ≤ x.a ∧ x.a < 8) (hpc : 0 ≤ t.pc ∧ t.pc ≤ 1000000)
    (hrd : readsR t.reads = true) (hrl : t.reads.length < 24) :
    RSpec Tryz.prog 113 [.ptr 0 0 0, .d (dS x)] [bX t h r] (.tuple []) [bX (loadT t x h r) h r] := by
  refine RSpec.of_awp envOf_ok hmix Tryz.func113 rfl (fun args w => Tryz.call113 args w) (by simp [Tryz.f113]) ?_
  simp only [Tryz.f113]
  simp (maxSteps := 2000000) -implicitDefEqProofs only [zz, zE, evop, ev, tget, tput, V.isUndef, Ch.on, hput, V.cells, ↓reduceIte, reduceCtorEq, Nat.reduceLT, initV, dS]
  unfold bX
  refine wdraw_plan [⟨[], false, [16, 17], [], false⟩, ⟨[0], false, [16, 17], [], false⟩, ⟨[0, 1], false, [16, 17], [], false⟩, ⟨[0, 1, 2], false, [16, 17], [], false⟩, ⟨[], false, [12, 13, 14, 15], [0, 1, 2, 3], false⟩, ⟨[4], false, [12, 13, 14, 15], [0, 1, 2, 3], false⟩, ⟨[0, 1, 2, 3, 4, 5], true, [], [], false⟩, ⟨[0, 1, 2, 3, 4, 5, 6], true, [], [], false⟩, ⟨[0, 1, 2, 3, 4, 5, 6, 7], false, [20], [], false⟩, ⟨[0, 1, 2, 3, 4, 5, 6, 7], false, [4, 19], [8], false⟩, ⟨[0, 1, 2, 3, 4, 5, 6, 7, 8], false, [20], [9], false⟩, ⟨[0, 1, 2, 3, 4, 5, 6, 7, 8, 9, 10], true, [], [], false⟩] (by decide) ?_
  simp (maxSteps := 2000000) -implicitDefEqProofs only [zz, zE, evop, ev, ofVal, tget, tput, ok, V.isUndef, calleeOf, withArgs, hget, hput, D.cells, loadD, structAt, isPtr, Blk.width, ↓reduceIte, reduceCtorEq, Nat.reduceLT, Nat.reduceEqDiff, Nat.reduceAdd, Nat.reduceLeDiff]
  refine acall_flat (by first | rfl | (simp only [xports, xport, hget]; rfl)) (c_heap_Get h x.b hl) rfl ?_
  try simp (maxSteps := 2000000) -implicitDefEqProofs only [zz, zE, evop, ev, ofVal, tget, tput, ok, V.isUndef, intBin, Ch.on, calleeOf, withArgs, told, hget, hput, structAt, Blk.width, ↓reduceIte, reduceCtorEq, Nat.reduceLT, Nat.reduceEqDiff, Nat.reduceAdd, Nat.reduceSub, Nat.reduceLeDiff, nilTest]
  by_cases h0 : (heapGet h x.b).2 = 0
  case neg =>
    have e : ((heapGet h x.b).2 != 0) = true := by simpa using h0
    have hst : loadT t x h r = endT t 4 x.b := by unfold loadT; rw [if_pos h0]
    rw [hst]
    have hr := r_x_end t h r 4 x.b
    unfold bX at hr
    simp (maxSteps := 2000000) -implicitDefEqProofs only [↓reduceIte, e]
    refine acall_ref [0] (hr) (by first | rfl | simp [renL, V.ren, frρ, renL_ds]) (by simp) rfl (by simp) (by simp) (by intro j hj; match j, hj with | 0, _ => exact ⟨by simp [hget], rfl⟩) ?_
    try simp (maxSteps := 2000000) -implicitDefEqProofs only [zz, tput, hput, resOf, resVs, ↓reduceIte, Nat.reduceLT, Nat.reduceAdd, Blk.ren, V.ren, renL, frameH, putL]
    exact Weak.trimsM 1 (by simp) rfl (by simp [tget, V.lower, lowerL]) (by simp [Blk.lower, lowerL, V.lower])
  have e : ((heapGet h x.b).2 != 0) = false := by simpa using h0
  have hn := not_not_intro h0
  simp (maxSteps := 2000000) -implicitDefEqProofs only [zz, ↓reduceIte, e]
  refine wdraw_plan [⟨[], false, [33, 34], [], false⟩, ⟨[0], false, [33, 34], [], false⟩, ⟨[0, 1], false, [33, 34], [], false⟩, ⟨[0, 1, 2], false, [33, 34], [], false⟩, ⟨[0, 1, 2, 3], false, [33, 34], [], false⟩, ⟨[], false, [28, 29, 30, 31, 32], [0, 1, 2, 3, 4], false⟩, ⟨[5], false, [28, 29, 30, 31, 32], [0, 1, 2, 3, 4], false⟩, ⟨[0, 1, 2, 3, 4, 5, 6], true, [], [], false⟩, ⟨[0, 1, 2, 3, 4, 5, 6, 7], true, [], [], false⟩, ⟨[0, 1, 2, 3, 4, 5, 6, 7, 8], false, [37], [], false⟩, ⟨[0, 1, 2, 3, 4, 5, 6, 7, 8], false, [6, 36], [9], false⟩, ⟨[0, 1, 2, 3, 4, 5, 6, 7, 8, 9], false, [37], [10], false⟩, ⟨[0, 1, 2, 3, 4, 5, 6, 7, 8, 9, 10, 11], true, [], [], false⟩] (by decide) ?_
  simp (maxSteps := 2000000) -implicitDefEqProofs only [zz, zE, evop, ev, ofVal, tget, tput, ok, V.isUndef, calleeOf, withArgs, hget, hput, D.cells, loadD, structAt, isPtr, Blk.width, ↓reduceIte, reduceCtorEq, Nat.reduceLT, Nat.reduceEqDiff, Nat.reduceAdd, Nat.reduceLeDiff]
  have hg := c_Get t.log x.b
  refine acall_flat (by first | rfl | (simp only [xports, xport, hget]; rfl)) (hg) rfl ?_
  try simp (maxSteps := 2000000) -implicitDefEqProofs only [zz, zE, evop, ev, tget, tput, ok, V.isUndef, Ch.on, calleeOf, withArgs, told, hget, hput, structAt, Blk.width, ↓reduceIte, reduceCtorEq, Nat.reduceLT, Nat.reduceEqDiff, Nat.reduceAdd, Nat.reduceSub, Nat.reduceLeDiff]
  cases hg2 : (getL t.log x.b).2 with
  | true =>
    have g2 : (logR t.log && (getW t.log.1 x.b).2) = true := hg2
    have hst : loadT t x h r = putT t x.a (getL t.log x.b).1 := by unfold loadT; rw [if_neg hn, if_pos hg2]
    rw [hst]
    have hr := r_x_put t h r x.a (getL t.log x.b).1 hreg ha hpc
    unfold bX getL at hr
    simp (maxSteps := 2000000) -implicitDefEqProofs only [↓reduceIte, g2]
    refine acall_ref [0] (hr) (by first | rfl | simp [renL, V.ren, frρ, renL_ds]) (by simp) rfl (by simp) (by simp) (by intro j hj; match j, hj with | 0, _ => exact ⟨by simp [hget], rfl⟩) ?_
    try simp (maxSteps := 2000000) -implicitDefEqProofs only [zz, tput, hput, resOf, resVs, ↓reduceIte, Nat.reduceLT, Nat.reduceAdd, Blk.ren, V.ren, renL, frameH, putL]
    exact Weak.trimsM 1 (by simp) rfl (by simp [tget, V.lower, lowerL]) (by simp [Blk.lower, lowerL, V.lower])
  | false =>
    have g2 : (logR t.log && (getW t.log.1 x.b).2) = false := hg2
    have hng : ¬ (getL t.log x.b).2 = true := by rw [hg2]; decide
    simp (maxSteps := 2000000) -implicitDefEqProofs only [zz, ↓reduceIte, g2]
    refine wdraw_plan [⟨[], false, [8, 50, 51], [], false⟩, ⟨[0], false, [8, 50, 51], [], false⟩, ⟨[0, 1], false, [8, 50, 51], [], false⟩, ⟨[0, 1, 2], false, [8, 50, 51], [], false⟩, ⟨[0, 1, 2, 3], false, [8, 50, 51], [], false⟩, ⟨[], false, [8, 45, 46, 47, 48, 49], [0, 1, 2, 3, 4], false⟩, ⟨[5], false, [8, 45, 46, 47, 48, 49], [0, 1, 2, 3, 4], false⟩, ⟨[0, 1, 2, 3, 4, 5, 6], false, [8], [], false⟩, ⟨[0, 1, 2, 3, 4, 5, 6, 7], false, [8], [], false⟩, ⟨[0, 1, 2, 3, 4, 5, 6, 7, 8], false, [8, 54], [], false⟩, ⟨[0, 1, 2, 3, 4, 5, 6, 7, 8], false, [8, 9, 53, 54], [9], true⟩, ⟨[], false, [44, 45, 46, 47, 48, 49, 50, 51, 52, 53, 54], [0, 1, 2, 3, 4, 5, 6, 7, 8, 9, 10], false⟩, ⟨[0, 1, 2, 3, 4, 5, 6, 7, 8, 9, 11], true, [54], [], false⟩, ⟨[0, 1, 2, 3, 4, 5, 6, 7, 8, 9, 10, 11, 12], true, [], [], false⟩] (by decide) ?_
    simp (maxSteps := 2000000) -implicitDefEqProofs only [zz, zE, evop, ev, ofVal, tget, tput, ok, V.isUndef, calleeOf, withArgs, hget, hput, V.cells, D.cells, loadD, structAt, isPtr, Blk.width, splice, D.over, ↓reduceIte, reduceCtorEq, Nat.reduceLT, Nat.reduceEqDiff, Nat.reduceAdd, Nat.reduceLeDiff]
    have hf := c_reads_Find t.reads x.b (by omega)
    cases hfd : t.reads.find? (fun y => y.1 == x.b) with
    | some y =>
      have hfr : findR t.reads x.b = (y, true) := by unfold findR; rw [if_pos hrd, hfd]
      rw [hfr] at hf
      have hst : loadT t x h r = putT t x.a y.2.2 := by unfold loadT; rw [if_neg hn, if_neg hng, hfd]
      rw [hst]
      have hr := r_x_put t h r x.a y.2.2 hreg ha hpc
      unfold bX at hr
      refine dcall_still (by first | rfl | (simp only [xports, xport, hget]; rfl)) (hf) rfl ?_
      try simp (maxSteps := 2000000) -implicitDefEqProofs only [zz, zE, evop, ev, tget, tput, ok, V.isUndef, Ch.on, calleeOf, withArgs, told, hget, hput, V.one, structAt, Blk.width, ↓reduceIte, reduceCtorEq, Nat.reduceLT, Nat.reduceEqDiff, Nat.reduceAdd, dRd]
      refine acall_ref [0] (hr) (by first | rfl | simp [renL, V.ren, frρ, renL_ds]) (by simp) rfl (by simp) (by simp) (by intro j hj; match j, hj with | 0, _ => exact ⟨by simp [hget], rfl⟩) ?_
      try simp (maxSteps := 2000000) -implicitDefEqProofs only [zz, tput, hput, resOf, resVs, ↓reduceIte, Nat.reduceLT, Nat.reduceAdd, Blk.ren, V.ren, renL, frameH, putL]
      exact Weak.trimsM 1 (by simp) rfl (by simp [tget, V.lower, lowerL]) (by simp [Blk.lower, lowerL, V.lower])
    | none =>
      have hfr : findR t.reads x.b = ((0, 0, 0), false) := by unfold findR; rw [if_pos hrd, hfd]
      rw [hfr] at hf
      obtain ⟨z1, z2, z3, z4, z5⟩ := heapGet_0 h0
      obtain ⟨y1, y2, y3, y4, y5, y6, y7⟩ := recR_in htb z4
      have hrx : r[(x.b.tmod r.length).toNat]? = some (recR r x.b) := by
        unfold recR
        rw [List.getElem?_eq_getElem (by omega)]
        rfl
      have hrne : (r.length : Int) ≠ 0 := by omega
      refine dcall_still (by first | rfl | (simp only [xports, xport, hget]; rfl)) (hf) rfl ?_
      try simp (maxSteps := 2000000) -implicitDefEqProofs only [zz, evop, ev, tget, tput, ok, V.isUndef, Ch.on, told, hput, V.one, ↓reduceIte, Nat.reduceLT, Nat.reduceEqDiff, Nat.reduceAdd, dRd]
      refine wdraw_plan [⟨[], false, [10, 66, 67, 68, 69, 70, 71, 72, 73], [], false⟩, ⟨[0], false, [10, 66, 67, 68, 69, 70, 71, 72, 73], [], false⟩, ⟨[0, 1], false, [10, 66, 67, 68, 69, 70, 71, 72, 73], [], false⟩, ⟨[0, 1, 2], false, [10, 66, 67, 68, 69, 70, 71, 72, 73], [], false⟩, ⟨[], false, [10, 62, 63, 64, 65, 68, 69, 70, 71, 72], [0, 1, 2, 3], false⟩, ⟨[4], false, [10, 62, 63, 64, 65, 68, 69, 70, 71, 72], [0, 1, 2, 3], false⟩, ⟨[], false, [10, 62, 63, 64, 65, 66, 67], [0, 1, 2, 3, 4, 5], false⟩, ⟨[6], false, [10, 62, 63, 64, 65, 66, 67], [0, 1, 2, 3, 4, 5], false⟩, ⟨[6, 7], false, [10, 62, 63, 64, 65, 66, 67], [0, 1, 2, 3, 4, 5], false⟩, ⟨[6, 7, 8], false, [10, 62, 63, 64, 65, 66, 67], [0, 1, 2, 3, 4, 5], false⟩, ⟨[6, 7, 8, 9], false, [10, 62, 63, 64, 65, 66, 67], [0, 1, 2, 3, 4, 5], false⟩, ⟨[4, 5, 6, 7, 8, 9, 10], false, [10, 62, 63, 64, 65], [0, 1, 2, 3], false⟩, ⟨[0, 1, 2, 3, 4, 5, 6, 7, 8, 9, 10, 11], false, [10], [], false⟩, ⟨[0, 1, 2, 3, 4, 5, 6, 7, 8, 9, 10, 11, 12], false, [10], [], false⟩, ⟨[], false, [62, 63, 64, 65, 66, 67, 68, 69, 70, 71, 72, 73, 74, 75], [0, 1, 2, 3, 4, 5, 6, 7, 8, 9, 10, 11, 12, 13], false⟩, ⟨[0, 1, 2, 3, 4, 5, 6, 7, 8, 9, 10, 11, 12, 13, 14], true, [], [], false⟩] (by decide) ?_
      simp (maxSteps := 2000000) -implicitDefEqProofs only [zz, zE, evop, ev, tget, tput, ok, V.isUndef, intBin, Ch.on, hget, hput, V.cells, D.cells, V.isAgg, V.one, loadD, structAt, sliceOf, isPtr, Blk.width, lenOf, splice, D.over, ↓reduceIte, reduceCtorEq, Nat.reduceLT, Nat.reduceEqDiff, Nat.reduceAdd, Nat.reduceLeDiff, dW, List.getElem?_map, hrx, Option.map_some]
      refine ⟨hrne, y6, ?_⟩
      by_cases ho : (recR r x.b).2 = 0
      case neg =>
        have eo : ((recR r x.b).2 != 0) = true := by simpa using ho
        have hst : loadT t x h r = endT t 5 0 := by unfold loadT; rw [if_neg hn, if_neg hng, hfd]; simp only; rw [if_pos (.inl ho)]
        rw [hst]
        have hr := r_x_end t h r 5 0
        unfold bX at hr
        refine wdraw_plan [⟨[], true, [], [], false⟩, ⟨[0], true, [], [], false⟩, ⟨[0, 1], true, [], [], false⟩, ⟨[0, 1, 2], true, [], [], false⟩, ⟨[0, 1, 2, 3], false, [82, 83, 84, 85, 86], [], false⟩, ⟨[0, 1, 2, 3, 4], false, [82, 83, 84, 85, 86], [], false⟩, ⟨[0, 1, 2, 3], false, [80, 81], [4, 5], false⟩, ⟨[0, 1, 2, 3, 6], false, [80, 81], [4, 5], false⟩, ⟨[0, 1, 2, 3, 6, 7], false, [80, 81], [4, 5], false⟩, ⟨[0, 1, 2, 3, 6, 7, 8], false, [80, 81], [4, 5], false⟩, ⟨[0, 1, 2, 3, 6, 7, 8, 9], false, [80, 81], [4, 5], false⟩, ⟨[0, 1, 2, 3, 4, 5, 6, 7, 8, 9, 10], false, [], [], false⟩, ⟨[0, 1, 2, 3, 4, 5, 6, 7, 8, 9, 10, 11], true, [], [], false⟩] (by decide) ?_
        simp (maxSteps := 2000000) -implicitDefEqProofs only [zz, zE, evop, ev, ofVal, tget, tput, ok, V.isUndef, intBin, guardOf, Ch.on, calleeOf, withArgs, told, hget, hput, structAt, Blk.width, ↓reduceIte, reduceCtorEq, Nat.reduceLT, Nat.reduceEqDiff, Nat.reduceAdd, Nat.reduceSub, eo]
        refine acall_ref [0] (hr) (by first | rfl | simp [renL, V.ren, frρ, renL_ds]) (by simp) rfl (by simp) (by simp) (by intro j hj; match j, hj with | 0, _ => exact ⟨by simp [hget], rfl⟩) ?_
        try simp (maxSteps := 2000000) -implicitDefEqProofs only [zz, tput, hput, resOf, resVs, ↓reduceIte, Nat.reduceLT, Nat.reduceAdd, Blk.ren, V.ren, renL, frameH, putL]
        exact Weak.trimsM 1 (by simp) rfl (by simp [tget, V.lower, lowerL]) (by simp [Blk.lower, lowerL, V.lower])
      have eo : ((recR r x.b).2 != 0) = false := by simpa using ho
      by_cases hv : (recR r x.b).1 > t.snap
      case pos =>
        have hst : loadT t x h r = endT t 5 0 := by unfold loadT; rw [if_neg hn, if_neg hng, hfd]; simp only; rw [if_pos (.inr hv)]
        rw [hst]
        have hr := r_x_end t h r 5 0
        unfold bX at hr
        refine wdraw_plan [⟨[], true, [], [], false⟩, ⟨[0], true, [], [], false⟩, ⟨[0, 1], true, [], [], false⟩, ⟨[0, 1, 2], true, [], [], false⟩, ⟨[0, 1, 2, 3], false, [82, 83, 84, 85, 86], [], false⟩, ⟨[0, 1, 2, 3, 4], false, [82, 83, 84, 85, 86], [], false⟩, ⟨[0, 1, 2, 3], false, [80, 81], [4, 5], false⟩, ⟨[0, 1, 2, 3, 6], false, [80, 81], [4, 5], false⟩, ⟨[0, 1, 2, 3, 6, 7], false, [80, 81], [4, 5], false⟩, ⟨[0, 1, 2, 3, 6, 7, 8], false, [80, 81], [4, 5], false⟩, ⟨[0, 1, 2, 3, 6, 7, 8, 9], false, [80, 81], [4, 5], false⟩, ⟨[0, 1, 2, 3, 4, 5, 6, 7, 8, 9, 10], false, [], [], false⟩, ⟨[0, 1, 2, 3, 4, 5, 6, 7, 8, 9, 10, 11], true, [], [], false⟩] (by decide) ?_
        simp (maxSteps := 2000000) -implicitDefEqProofs only [zz, zE, evop, ev, ofVal, tget, tput, ok, V.isUndef, intBin, guardOf, Ch.on, calleeOf, withArgs, told, hget, hput, V.cells, D.cells, V.isAgg, loadD, structAt, isPtr, Blk.width, ↓reduceIte, reduceCtorEq, Nat.reduceLT, Nat.reduceEqDiff, Nat.reduceAdd, Nat.reduceSub, Nat.reduceLeDiff, eo, hv]
        refine acall_ref [0] (hr) (by first | rfl | simp [renL, V.ren, frρ, renL_ds]) (by simp) rfl (by simp) (by simp) (by intro j hj; match j, hj with | 0, _ => exact ⟨by simp [hget], rfl⟩) ?_
        try simp (maxSteps := 2000000) -implicitDefEqProofs only [zz, tput, hput, resOf, resVs, ↓reduceIte, Nat.reduceLT, Nat.reduceAdd, Blk.ren, V.ren, renL, frameH, putL]
        exact Weak.trimsM 1 (by simp) rfl (by simp [tget, V.lower, lowerL]) (by simp [Blk.lower, lowerL, V.lower])
      have hst : loadT t x h r = putT { t with reads := t.reads ++ [(x.b, (recR r x.b).1, (heapGet h x.b).1)] } x.a (heapGet h x.b).1 := by
        unfold loadT; rw [if_neg hn, if_neg hng, hfd]; simp only; rw [if_neg (by omega)]
      rw [hst]
      refine wdraw_plan [⟨[], true, [], [], false⟩, ⟨[0], true, [], [], false⟩, ⟨[0, 1], true, [], [], false⟩, ⟨[0, 1, 2], true, [], [], false⟩, ⟨[0, 1, 2, 3], false, [82, 83, 84, 85, 86], [], false⟩, ⟨[0, 1, 2, 3, 4], false, [82, 83, 84, 85, 86], [], false⟩, ⟨[0, 1, 2, 3], false, [80, 81], [4, 5], false⟩, ⟨[0, 1, 2, 3, 6], false, [80, 81], [4, 5], false⟩, ⟨[0, 1, 2, 3, 6, 7], false, [80, 81], [4, 5], false⟩, ⟨[0, 1, 2, 3, 6, 7, 8], false, [80, 81], [4, 5], false⟩, ⟨[0, 1, 2, 3, 6, 7, 8, 9], false, [80, 81], [4, 5], false⟩, ⟨[0, 1, 2, 3, 4, 5, 6, 7, 8, 9, 10], false, [], [], false⟩, ⟨[0, 1, 2, 3, 4, 5, 6, 7, 8, 9, 10, 11], true, [], [], false⟩] (by decide) ?_
      simp (maxSteps := 2000000) -implicitDefEqProofs only [zz, zE, evop, ev, ofVal, tget, tput, ok, V.isUndef, intBin, guardOf, Ch.on, told, hget, hput, V.cells, D.cells, V.isAgg, loadD, structAt, isPtr, Blk.width, ↓reduceIte, reduceCtorEq, Nat.reduceLT, Nat.reduceEqDiff, Nat.reduceAdd, Nat.reduceSub, Nat.reduceLeDiff, eo, hv]
      refine wdraw_plan [⟨[], false, [91, 92, 93, 94, 95, 96, 97, 98, 99, 100, 101, 102, 103, 104, 105, 106, 107, 108, 109], [], true⟩, ⟨[], false, [92, 98, 99, 100, 101, 102, 103], [0], false⟩, ⟨[1], false, [92, 98, 99, 100, 101, 102, 103], [0], false⟩, ⟨[1, 2], false, [92, 98, 99, 100, 101, 102, 103], [0], false⟩, ⟨[1, 2, 3], false, [92, 98, 99, 100, 101, 102, 103], [0], false⟩, ⟨[1, 2, 3, 4], false, [92, 98, 99, 100, 101, 102, 103], [0], false⟩, ⟨[], false, [92, 93, 94, 95, 96, 97, 100, 101, 102], [0, 1, 2, 3, 4, 5], false⟩, ⟨[6], false, [92, 93, 94, 95, 96, 97, 100, 101, 102], [0, 1, 2, 3, 4, 5], false⟩, ⟨[], false, [92, 93, 94, 95, 96, 97, 98, 99, 102], [0, 1, 2, 3, 4, 5, 6, 7], false⟩, ⟨[8], false, [92, 93, 94, 95, 96, 97, 98, 99, 102], [0, 1, 2, 3, 4, 5, 6, 7], false⟩, ⟨[], false, [92, 93, 94, 95, 96, 97, 98, 99, 100, 101], [0, 1, 2, 3, 4, 5, 6, 7, 8, 9], false⟩, ⟨[6, 7, 8, 9, 10], false, [92, 93, 94, 95, 96, 97], [0, 1, 2, 3, 4, 5], false⟩, ⟨[1, 2, 3, 4, 5, 6, 7, 8, 9, 10, 11], true, [92], [], false⟩, ⟨[1, 2, 3, 4, 5, 6, 7, 8, 9, 10, 11, 12], false, [92], [0], false⟩, ⟨[1, 2, 3, 4, 5, 6, 7, 8, 9, 10, 11, 12, 13], false, [92, 106], [0], false⟩, ⟨[1, 2, 3, 4, 5, 6, 7, 8, 9, 10, 11, 12, 13], false, [92, 105, 106, 107, 108, 109], [0, 14], true⟩, ⟨[0, 1, 2, 3, 4, 5, 6, 7, 8, 9, 10, 11, 12, 13, 14], false, [106], [15], false⟩, ⟨[0, 1, 2, 3, 4, 5, 6, 7, 8, 9, 10, 11, 12, 13, 14, 16], false, [106], [15], false⟩, ⟨[0, 1, 2, 3, 4, 5, 6, 7, 8, 9, 10, 11, 12, 13, 14, 16, 17], false, [106], [15], false⟩, ⟨[0, 1, 2, 3, 4, 5, 6, 7, 8, 9, 10, 11, 12, 13, 14, 16, 17, 18], true, [106], [], false⟩] (by decide) ?_
      simp (maxSteps := 2000000) -implicitDefEqProofs only [zz, zE, evop, ev, ofVal, tget, tput, ok, V.isUndef, calleeOf, withArgs, hget, hput, V.cells, D.cells, loadD, structAt, partsV, isPtr, Blk.width, splice, ↓reduceIte, reduceCtorEq, Nat.reduceLT, Nat.reduceEqDiff, Nat.reduceAdd, Nat.reduceLeDiff]
      have hadd := c_reads_Add t.reads (x.b, (recR r x.b).1, (heapGet h x.b).1) hrl hrd (by simp only [rightRd, tickR, Bool.and_eq_true, decide_eq_true_eq]; exact ⟨⟨z4, y2, y3⟩, z3⟩) hfd
      refine acall_ice (by first | rfl | (simp only [xports, xport, hget]; rfl)) (hadd) ?_
      try simp (maxSteps := 2000000) -implicitDefEqProofs only [zz, zE, evop, ev, tget, tput, ok, V.isUndef, Ch.on, calleeOf, withArgs, tids, tidss, hget, hput, freeze, V.cells, D.cells, V.one, structAt, isPtr, Blk.width, splice, D.over, ↓reduceIte, reduceCtorEq, Nat.reduceLT, Nat.reduceEqDiff, Nat.reduceAdd, Nat.reduceSub, Nat.reduceLeDiff]
      have hr := r_x_put { t with reads := t.reads ++ [(x.b, (recR r x.b).1, (heapGet h x.b).1)] } h r x.a (heapGet h x.b).1 hreg ha hpc
      unfold bX at hr
      refine acall_ref [0] (hr) (by first | rfl | simp [renL, V.ren, frρ, renL_ds]) (by simp) rfl (by simp) (by simp) (by intro j hj; match j, hj with | 0, _ => exact ⟨by simp [hget], rfl⟩) ?_
      try simp (maxSteps := 2000000) -implicitDefEqProofs only [zz, tput, hput, resOf, resVs, ↓reduceIte, Nat.reduceLT, Nat.reduceAdd, Blk.ren, V.ren, renL, frameH, putL]
      exact Weak.trimsM 1 (by simp) rfl (by simp [tget, V.lower, lowerL]) (by simp [Blk.lower, lowerL, V.lower])
end Go.Proofs.YtjhfpabldidlgaaGreat.AM

/- A try begins. -/
set_option linter.all false
set_option maxRecDepth 100000
set_option maxHeartbeats 4000000
namespace Go.Proofs.YtjhfpabldidlgaaGreat.AM
open Go Go.RowKit

theorem c_attempt_Begin (c : List St) (who snap : Int) (hl : c.length ≤ 1000000) (ht : ∀ s ∈ c, s.t.length ≤ 1000000) : CSpec Tryz.prog 15 [.vec (c.map dS), .int .i64 who, .int .i64 snap] (.tuple [dT (begT c who snap), .int .i64 (if mayB c who snap = true then 0 else 1)]) := by
  have bad : mayB c who snap = false → begT c who snap = zeroT ∧ (if mayB c who snap = true then (0 : Int) else 1) = 1 := fun h => by simp [begT, h]
  refine CSpec.of_awp envOf_ok hmix Tryz.func15 rfl (fun args w => Tryz.call15 args w) (by simp [Tryz.f15]) ?_
  simp only [Tryz.f15]
  simp (maxSteps := 2000000) -implicitDefEqProofs only [zz, zE, evop, ev, ofVal, tget, tput, ok, V.isUndef, initT, Ch.on, calleeOf, withArgs, hput, ↓reduceIte, reduceCtorEq, Nat.reduceLT, Nat.reduceAdd]
  refine acall_flat (by first | rfl | (simp only [xports, xport, hget]; rfl)) (c_code_Check c hl ht) rfl ?_
  try simp (maxSteps := 2000000) -implicitDefEqProofs only [zz, zE, evop, ev, ofVal, tget, tput, ok, V.isUndef, intBin, guardOf, Ch.on, calleeOf, withArgs, told, xport, xports, hget, hput, V.cells, V.one, partsV, splice, resOf, resV, resVs, ↓reduceIte, reduceCtorEq, Nat.reduceLT, Nat.reduceEqDiff, Nat.reduceAdd, Nat.reduceLeDiff, nilTest]
  by_cases h1 : codeC c = 0
  case neg =>
    have e1 : (codeC c != 0) = true := by simpa using h1
    obtain ⟨b1, b2⟩ := bad (by simp [mayB, h1])
    rw [b1, b2]
    simp (maxSteps := 2000000) -implicitDefEqProofs only [zz, ↓reduceIte, e1]
    rfl
  have e1 : (codeC c != 0) = false := by simpa using h1
  by_cases h2 : who < 1
  · obtain ⟨b1, b2⟩ := bad (by have : ¬ 1 ≤ who := by omega
                               simp [mayB, this])
    rw [b1, b2]
    simp (maxSteps := 2000000) -implicitDefEqProofs only [zz, ↓reduceIte, e1, h2]
    rfl
  by_cases h3 : who > 8
  · obtain ⟨b1, b2⟩ := bad (by have : ¬ who ≤ 8 := by omega
                               simp [mayB, this])
    rw [b1, b2]
    simp (maxSteps := 2000000) -implicitDefEqProofs only [zz, ↓reduceIte, e1, h2, h3]
    rfl
  simp (maxSteps := 2000000) -implicitDefEqProofs only [zz, ↓reduceIte, e1, h2, h3]
  refine acall_flat (by first | rfl | (simp only [xports, xport, hget]; rfl)) (c_tick_Right snap) rfl ?_
  try simp (maxSteps := 2000000) -implicitDefEqProofs only [zz, zE, evop, ev, ofVal, tget, tput, ok, V.isUndef, guardOf, Ch.on, told, xport, xports, hget, hput, V.cells, V.one, sliceOf, partsV, splice, resOf, resV, resVs, ↓reduceIte, reduceCtorEq, Nat.reduceLT, Nat.reduceEqDiff, Nat.reduceAdd, Nat.reduceLeDiff, Int.reduceToNat]
  cases h4 : tickR snap with
  | false =>
    obtain ⟨b1, b2⟩ := bad (by simp [mayB, h4])
    rw [b1, b2]
    simp (maxSteps := 2000000) -implicitDefEqProofs only [zz, ↓reduceIte]
    rfl
  | true =>
    have hB : mayB c who snap = true := by
      have a1 : 1 ≤ who := by omega
      have a2 : who ≤ 8 := by omega
      simp [mayB, h1, h4, a1, a2]
    have g1 : begT c who snap = setT c.length (newT who snap) := by simp [begT, hB]
    rw [g1, if_pos hB]
    simp (maxSteps := 2000000) -implicitDefEqProofs only [zz, ↓reduceIte]
    have hs : CSpec Tryz.prog 54 [.agg [.int .i64 who, .int .i64 snap, .int .i64 0, .vec [.int .i64 0, .int .i64 0, .int .i64 0, .int .i64 0, .int .i64 0, .int .i64 0, .int .i64 0, .int .i64 0], .vec [], .vec [], .vec [], .vec [], .vec [], .int .i64 0, .int .i64 0], .vec (c.map dS)] (dT (setT c.length (newT who snap))) :=
      c_settled (newT who snap) c (by simp [newT, zeroT]) (by simp [newT, zeroT]) (by simp [newT, zeroT])
    have hok : okEl 1 (D.int IntKind.i64 0) = true := rfl
    simp (maxSteps := 2000000) -implicitDefEqProofs only [zz, zE, evop, ev, tget, tput, ok, V.isUndef, Ch.on, calleeOf, withArgs, hput, V.cells, V.one, V.clo, clos, partsV, splice, ↓reduceIte, reduceCtorEq, Nat.reduceLT, Nat.reduceEqDiff, Nat.reduceAdd, Nat.reduceLeDiff, zeroD, clos, V.clo, hok, List.replicate]
    refine ⟨by decide, ?_⟩
    refine acall_ice (by first | rfl | (simp only [xports, xport, hget]; rfl)) (hs) ?_
    try simp (maxSteps := 2000000) -implicitDefEqProofs only [zz, zE, evop, ev, tget, tput, tids, tidss, hget, hput, Blk.ice, freeze, V.cells, splice, ↓reduceIte, Nat.reduceLT, Nat.reduceEqDiff, Nat.reduceAdd, Nat.reduceLeDiff]
    simp (maxSteps := 2000000) -implicitDefEqProofs only [zz, zE, evop, ev, ofVal, tget, tput, ok, V.isUndef, Ch.on, xport, xports, hget, hput, V.one, resOf, resV, resVs, ↓reduceIte, Nat.reduceLT, Nat.reduceEqDiff, Nat.reduceAdd, Nat.reduceLeDiff, dT, tyC]
end Go.Proofs.YtjhfpabldidlgaaGreat.AM

/- A step. -/
set_option linter.all false
set_option maxRecDepth 100000
set_option maxHeartbeats 8000000
namespace Go.Proofs.YtjhfpabldidlgaaGreat.AM
open Go Go.RowKit

theorem RV.dCells {φ : Nat → Option Loc} {S : Nat → Prop} {H : Heap} {w : World} {ds : List D} {c : Value} (h : RV φ S H w (.agg (ds.map V.d)) c) : RV φ S H w (.d (.agg ds)) c := by
  cases h with
  | agg _ cs hl hh =>
    refine .d _ _ (.agg ds cs (by simpa using hl) (fun i d c hd hc => ?_))
    have := hh i (.d d) c (by simp [hd]) hc
    cases this; assumption
theorem RSpec.structArg {f : Nat} {v0 : V} {ds : List D} {H H1 : Heap} {r : V} (h : RSpec Tryz.prog f [v0, .d (.agg ds)] H r H1) : RSpec Tryz.prog f [v0, .agg (ds.map V.d)] H r H1 :=
  ⟨h.1, fun C φ S w cs hH hv => h.2 C φ S w cs hH ⟨by have := hv.len; simpa using this, fun i v c hi hc => by
    match i, hi with
    | 0, hi => exact hv.at_ 0 v c hi hc
    | 1, hi =>
      obtain rfl : _ = v := by simpa using hi
      exact RV.dCells (hv.at_ 1 _ c rfl hc)⟩⟩

/-- What a step asks. -/
structure StpOk (t : Ty) (h : List (Bool × Int)) (r : List (Int × Int)) (x : St) : Prop where
  hl : h.length ≤ 1000000
  htb : tableR r = true
  hreg : t.regs.length = 8
  hpc : 0 ≤ t.pc ∧ t.pc ≤ 1000000
  hrd : readsR t.reads = true
  hrl : t.reads.length < 24
  h1 : t.log.1.length ≤ 1000000
  h2 : t.log.2.length ≤ 1000000
  hf : t.frames.length ≤ 1000000
  hp : t.path.length ≤ 1000000
  hfr : ∀ f, t.frames.getLast? = some f → 0 ≤ f.long ∧ f.long ≤ t.path.length
  htl : x.t.length ≤ 1000000
  may : mayS x = true

theorem r_x_do (t : Ty) (h : List (Bool × Int)) (r : List (Int × Int)) (x : St) (k : StpOk t h r x) : RSpec Tryz.prog 64 [.ptr 0 0 0, .d (dS x)] [bX t h r] (.tuple []) [bX (doT t x h r) h r] := by
  obtain ⟨hl, htb, hreg, hpc, hrd, hrl, h1, h2, hf, hp, hfr, htl, may⟩ := k
  obtain ⟨g4, g7⟩ := mayS_rng may
  have hwp : IntKind.i64.wrap (t.pc + 1) = t.pc + 1 := by rw [wrap_in (by omega)]
  by_cases d1 : x.d = 1
  case pos =>
    have e1 : (x.d == 1) = true := by simpa using d1
    have hst : doT t x h r = loadT t x h r := by unfold doT; rw [if_pos d1]
    rw [hst]
    have ha : 0 ≤ x.a ∧ x.a < 8 := by unfold mayS belowI at may; rw [if_pos d1] at may; simp at may; omega
    have hr := r_x_load t h r x hl htb hreg ha hpc hrd hrl
    simp only [dS] at hr
    replace hr := RSpec.structArg hr
    simp only [List.map_cons, List.map_nil] at hr
    unfold bX at hr
    refine RSpec.of_awp envOf_ok hmix Tryz.func64 rfl (fun args w => Tryz.call64 args w) (by simp [Tryz.f64]) ?_
    simp only [Tryz.f64]
    simp (maxSteps := 2000000) -implicitDefEqProofs only [zz, zE, evop, ev, ofVal, tget, tput, ok, V.isUndef, intBin, Ch.on, calleeOf, withArgs, told, hget, hput, V.cells, structAt, isPtr, Blk.width, resOf, resVs, ↓reduceIte, reduceCtorEq, Nat.reduceLT, Nat.reduceEqDiff, Nat.reduceAdd, Nat.reduceLeDiff, nilTest, initV, dS]
    unfold bX
    simp (maxSteps := 2000000) -implicitDefEqProofs only [↓reduceIte, e1]
    refine acall_ref [0] (hr) (by first | rfl | simp [renL, V.ren, frρ, renL_ds]) (by simp) rfl (by simp) (by simp) (by intro j hj; match j, hj with | 0, _ => exact ⟨by simp [hget], rfl⟩) ?_
    try simp (maxSteps := 2000000) -implicitDefEqProofs only [zz, tput, hput, resOf, resVs, ↓reduceIte, Nat.reduceLT, Nat.reduceAdd, Blk.ren, V.ren, renL, frameH, putL]
    exact Weak.trimsM 1 (by simp) rfl (by simp [tget, V.lower, lowerL]) (by simp [Blk.lower, lowerL, V.lower])
  have e1 : (x.d == 1) = false := by simpa using d1
  by_cases d2 : x.d = 2
  case pos =>
    have e2 : (x.d == 2) = true := by simpa using d2
    have hst : doT t x h r = putT t x.a (tellT t h x.t) := by unfold doT; rw [if_neg d1, if_pos d2]
    rw [hst]
    have ha : 0 ≤ x.a ∧ x.a < 8 := by unfold mayS belowI at may; rw [if_neg d1, if_pos d2] at may; simp at may; omega
    have hr := r_x_put t h r x.a (tellT t h x.t) hreg ha hpc
    have ht := r_x_tell t h r x.t hl htl
    unfold bX at ht
    unfold bX at hr
    refine RSpec.of_awp envOf_ok hmix Tryz.func64 rfl (fun args w => Tryz.call64 args w) (by simp [Tryz.f64]) ?_
    simp only [Tryz.f64]
    simp (maxSteps := 2000000) -implicitDefEqProofs only [zz, zE, evop, ev, ofVal, tget, tput, ok, V.isUndef, intBin, Ch.on, calleeOf, withArgs, told, hget, hput, V.cells, structAt, isPtr, Blk.width, resOf, resVs, ↓reduceIte, reduceCtorEq, Nat.reduceLT, Nat.reduceEqDiff, Nat.reduceAdd, Nat.reduceLeDiff, nilTest, initV, dS]
    unfold bX
    simp (maxSteps := 2000000) -implicitDefEqProofs only [zz, ↓reduceIte, e1, e2]
    refine wdraw_plan [⟨[], false, [14, 15, 16, 17, 18, 19], [], false⟩, ⟨[], false, [13, 16, 17, 18, 19], [0], false⟩, ⟨[1], false, [13, 16, 17, 18, 19], [0], false⟩, ⟨[], false, [13, 14, 15, 17, 18], [0, 1, 2], false⟩, ⟨[], false, [13, 14, 15, 16], [0, 1, 2, 3], false⟩, ⟨[4], false, [13, 14, 15, 16], [0, 1, 2, 3], false⟩, ⟨[3, 4, 5], false, [13, 14, 15], [0, 1, 2], false⟩, ⟨[0, 1, 2, 3, 4, 5, 6], true, [], [], false⟩] (by decide) ?_
    simp (maxSteps := 2000000) -implicitDefEqProofs only [zz, zE, evop, ev, ofVal, tget, tput, ok, V.isUndef, calleeOf, withArgs, hget, hput, D.cells, loadD, structAt, Blk.width, ↓reduceIte, reduceCtorEq, Nat.reduceLT, Nat.reduceEqDiff, Nat.reduceAdd, Nat.reduceLeDiff]
    refine dcall_ref0 [0] (ht) (fun k => by first | rfl | simp [renL, V.ren, frρ, renL_ds]) (fun k => rfl) (by simp) rfl (by intro j hj; match j, hj with | 0, _ => exact ⟨by simp [hget], by simp [hget, frρ], fun k => rfl⟩) ?_
    try simp (maxSteps := 2000000) -implicitDefEqProofs only [zz]
    refine acall_ref [0] (hr) (by first | rfl | simp [renL, V.ren, frρ, renL_ds]) (by simp) rfl (by simp) (by simp) (by intro j hj; match j, hj with | 0, _ => exact ⟨by simp [hget], rfl⟩) ?_
    try simp (maxSteps := 2000000) -implicitDefEqProofs only [zz, tput, hput, resOf, resVs, ↓reduceIte, Nat.reduceLT, Nat.reduceAdd, Blk.ren, V.ren, renL, frameH, putL]
    exact Weak.trimsM 1 (by simp) rfl (by simp [tget, V.lower, lowerL]) (by simp [Blk.lower, lowerL, V.lower])
  have e2 : (x.d == 2) = false := by simpa using d2
  by_cases d3 : x.d = 3
  case pos =>
    have e3 : (x.d == 3) = true := by simpa using d3
    have hst : doT t x h r = storeT t x h := by unfold doT; rw [if_neg d1, if_neg d2, if_pos d3]
    rw [hst]
    have hr := r_x_store t h r x hl htl h1 h2 hpc
    simp only [dS] at hr
    replace hr := RSpec.structArg hr
    simp only [List.map_cons, List.map_nil] at hr
    unfold bX at hr
    refine RSpec.of_awp envOf_ok hmix Tryz.func64 rfl (fun args w => Tryz.call64 args w) (by simp [Tryz.f64]) ?_
    simp only [Tryz.f64]
    simp (maxSteps := 2000000) -implicitDefEqProofs only [zz, zE, evop, ev, ofVal, tget, tput, ok, V.isUndef, intBin, Ch.on, calleeOf, withArgs, told, hget, hput, V.cells, structAt, isPtr, Blk.width, resOf, resVs, ↓reduceIte, reduceCtorEq, Nat.reduceLT, Nat.reduceEqDiff, Nat.reduceAdd, Nat.reduceLeDiff, nilTest, initV, dS]
    unfold bX
    simp (maxSteps := 2000000) -implicitDefEqProofs only [zz, ↓reduceIte, e1, e2, e3]
    refine acall_ref [0] (hr) (by first | rfl | simp [renL, V.ren, frρ, renL_ds]) (by simp) rfl (by simp) (by simp) (by intro j hj; match j, hj with | 0, _ => exact ⟨by simp [hget], rfl⟩) ?_
    try simp (maxSteps := 2000000) -implicitDefEqProofs only [zz, tput, hput, resOf, resVs, ↓reduceIte, Nat.reduceLT, Nat.reduceAdd, Blk.ren, V.ren, renL, frameH, putL]
    exact Weak.trimsM 1 (by simp) rfl (by simp [tget, V.lower, lowerL]) (by simp [Blk.lower, lowerL, V.lower])
  have e3 : (x.d == 3) = false := by simpa using d3
  by_cases d4 : x.d = 4
  case pos =>
    have e4 : (x.d == 4) = true := by simpa using d4
    have hst : doT t x h r = skipT t x h := by unfold doT; rw [if_neg d1, if_neg d2, if_neg d3, if_pos d4]
    rw [hst]
    have hr := r_x_tell { t with pc := t.pc + 1 } h r x.t hl htl
    have htt : tellT { t with pc := t.pc + 1 } h x.t = tellT t h x.t := rfl
    rw [htt] at hr
    have hws : IntKind.i64.wrap (t.pc + 1 + x.a) = t.pc + 1 + x.a := by have := g4 d4; rw [wrap_in (by omega)]
    unfold bX at hr
    refine RSpec.of_awp envOf_ok hmix Tryz.func64 rfl (fun args w => Tryz.call64 args w) (by simp [Tryz.f64]) ?_
    simp only [Tryz.f64]
    simp (maxSteps := 2000000) -implicitDefEqProofs only [zz, zE, evop, ev, ofVal, tget, tput, ok, V.isUndef, intBin, Ch.on, calleeOf, withArgs, told, hget, hput, V.cells, structAt, isPtr, Blk.width, resOf, resVs, ↓reduceIte, reduceCtorEq, Nat.reduceLT, Nat.reduceEqDiff, Nat.reduceAdd, Nat.reduceLeDiff, nilTest, initV, dS]
    unfold bX
    simp (maxSteps := 2000000) -implicitDefEqProofs only [zz, zE, evop, ev, ofVal, tget, tput, ok, V.isUndef, intBin, Ch.on, calleeOf, withArgs, hget, hput, V.cells, V.one, structAt, isPtr, Blk.width, splice, ↓reduceIte, reduceCtorEq, Nat.reduceLT, Nat.reduceEqDiff, Nat.reduceAdd, Nat.reduceLeDiff, nilTest, e1, e2, e3, e4, hwp]
    refine acall_ref [0] (hr) (by first | rfl | simp [renL, V.ren, frρ, renL_ds]) (by simp) rfl (by simp) (by simp) (by intro j hj; match j, hj with | 0, _ => exact ⟨by simp [hget], rfl⟩) ?_
    try simp (maxSteps := 2000000) -implicitDefEqProofs only [zz, evop, ev, ofVal, tget, tput, intBin, Ch.on, told, hput, resOf, resVs, ↓reduceIte, Nat.reduceLT, Nat.reduceAdd, nilTest, Blk.ren, V.ren, renL, frameH, putL]
    by_cases hz : tellT t h x.t = 0
    · have ez : (tellT t h x.t == 0) = true := by simpa using hz
      have hsk : skipT t x h = { t with pc := t.pc + 1 + x.a } := by unfold skipT; rw [if_pos hz]
      rw [hsk]
      simp (maxSteps := 2000000) -implicitDefEqProofs only [↓reduceIte, ez]
      refine wdraw_plan [⟨[], false, [47, 48], [], false⟩, ⟨[0], false, [47, 48], [], false⟩, ⟨[0, 1], false, [47, 48], [], false⟩, ⟨[0, 1, 2], false, [47, 48], [], false⟩, ⟨[0, 1, 2, 3], false, [47, 48], [], false⟩, ⟨[], false, [42, 43, 44, 45, 46], [0, 1, 2, 3, 4], false⟩, ⟨[5], false, [42, 43, 44, 45, 46], [0, 1, 2, 3, 4], false⟩, ⟨[0, 1, 2, 3, 4, 5, 6], true, [], [], false⟩, ⟨[0, 1, 2, 3, 4, 5, 6, 7], true, [], [], false⟩, ⟨[0, 1, 2, 3, 4, 5, 6, 7, 8], true, [], [], false⟩, ⟨[0, 1, 2, 3, 4, 5, 6, 7, 8, 9], true, [], [], false⟩, ⟨[0, 1, 2, 3, 4, 5, 6, 7, 8, 9, 10], true, [], [], false⟩] (by decide) ?_
      simp (maxSteps := 2000000) -implicitDefEqProofs only [zz, zE, evop, ev, tget, tput, ok, V.isUndef, intBin, Ch.on, hget, hput, V.cells, D.cells, V.isAgg, V.one, loadD, structAt, isPtr, Blk.width, splice, resOf, resVs, ↓reduceIte, reduceCtorEq, Nat.reduceLT, Nat.reduceEqDiff, Nat.reduceAdd, Nat.reduceLeDiff, hws]
      exact Weak.trimsM 1 (by simp) rfl (by simp [tget, V.lower, lowerL]) (by simp [Blk.lower, lowerL, V.lower])
    have ez : (tellT t h x.t == 0) = false := by simpa using hz
    have hsk : skipT t x h = { t with pc := t.pc + 1 } := by unfold skipT; rw [if_neg hz]
    rw [hsk]
    simp (maxSteps := 2000000) -implicitDefEqProofs only [zz, ↓reduceIte, ez]
    exact Weak.trimsM 1 (by simp) rfl (by simp [tget, V.lower, lowerL]) (by simp [Blk.lower, lowerL, V.lower])
  have e4 : (x.d == 4) = false := by simpa using d4
  by_cases d5 : x.d = 5
  case pos =>
    have e5 : (x.d == 5) = true := by simpa using d5
    have hst : doT t x h r = agT t := by unfold doT; rw [if_neg d1, if_neg d2, if_neg d3, if_neg d4, if_pos d5]
    rw [hst]
    have hr := r_x_again t h r h1 h2 hf hp hfr
    unfold bX at hr
    refine RSpec.of_awp envOf_ok hmix Tryz.func64 rfl (fun args w => Tryz.call64 args w) (by simp [Tryz.f64]) ?_
    simp only [Tryz.f64]
    simp (maxSteps := 2000000) -implicitDefEqProofs only [zz, zE, evop, ev, ofVal, tget, tput, ok, V.isUndef, intBin, Ch.on, calleeOf, withArgs, told, hget, hput, V.cells, structAt, isPtr, Blk.width, resOf, resVs, ↓reduceIte, reduceCtorEq, Nat.reduceLT, Nat.reduceEqDiff, Nat.reduceAdd, Nat.reduceLeDiff, nilTest, initV, dS]
    unfold bX
    simp (maxSteps := 2000000) -implicitDefEqProofs only [zz, ↓reduceIte, e1, e2, e3, e4, e5]
    refine acall_ref [0] (hr) (by first | rfl | simp [renL, V.ren, frρ, renL_ds]) (by simp) rfl (by simp) (by simp) (by intro j hj; match j, hj with | 0, _ => exact ⟨by simp [hget], rfl⟩) ?_
    try simp (maxSteps := 2000000) -implicitDefEqProofs only [zz, tput, hput, resOf, resVs, ↓reduceIte, Nat.reduceLT, Nat.reduceAdd, Blk.ren, V.ren, renL, frameH, putL]
    exact Weak.trimsM 1 (by simp) rfl (by simp [tget, V.lower, lowerL]) (by simp [Blk.lower, lowerL, V.lower])
  have e5 : (x.d == 5) = false := by simpa using d5
  by_cases d6 : x.d = 6
  case pos =>
    have e6 : (x.d == 6) = true := by simpa using d6
    have hst : doT t x h r = endT t 3 x.a := by unfold doT; rw [if_neg d1, if_neg d2, if_neg d3, if_neg d4, if_neg d5, if_pos d6]
    rw [hst]
    have hr := r_x_end t h r 3 x.a
    unfold bX at hr
    refine RSpec.of_awp envOf_ok hmix Tryz.func64 rfl (fun args w => Tryz.call64 args w) (by simp [Tryz.f64]) ?_
    simp only [Tryz.f64]
    simp (maxSteps := 2000000) -implicitDefEqProofs only [zz, zE, evop, ev, ofVal, tget, tput, ok, V.isUndef, intBin, Ch.on, calleeOf, withArgs, told, hget, hput, V.cells, structAt, isPtr, Blk.width, resOf, resVs, ↓reduceIte, reduceCtorEq, Nat.reduceLT, Nat.reduceEqDiff, Nat.reduceAdd, Nat.reduceLeDiff, nilTest, initV, dS]
    unfold bX
    simp (maxSteps := 2000000) -implicitDefEqProofs only [zz, ↓reduceIte, e1, e2, e3, e4, e5, e6]
    refine acall_ref [0] (hr) (by first | rfl | simp [renL, V.ren, frρ, renL_ds]) (by simp) rfl (by simp) (by simp) (by intro j hj; match j, hj with | 0, _ => exact ⟨by simp [hget], rfl⟩) ?_
    try simp (maxSteps := 2000000) -implicitDefEqProofs only [zz, tput, hput, resOf, resVs, ↓reduceIte, Nat.reduceLT, Nat.reduceAdd, Blk.ren, V.ren, renL, frameH, putL]
    exact Weak.trimsM 1 (by simp) rfl (by simp [tget, V.lower, lowerL]) (by simp [Blk.lower, lowerL, V.lower])
  have e6 : (x.d == 6) = false := by simpa using d6
  have d7 : x.d = 7 := by
    unfold mayS at may
    rw [if_neg d1, if_neg d2, if_neg d3, if_neg d4, if_neg d5, if_neg d6] at may
    simp at may
    omega
  have e7 : (x.d == 7) = true := by simpa using d7
  have hst : doT t x h r = eiT t x := by unfold doT; rw [if_neg d1, if_neg d2, if_neg d3, if_neg d4, if_neg d5, if_neg d6]
  rw [hst]
  have hg := g7 d7
  have hr := r_x_either t h r x h1 h2 hpc ⟨by omega, by omega⟩ ⟨by omega, by omega⟩ hf hp
  simp only [dS] at hr
  replace hr := RSpec.structArg hr
  simp only [List.map_cons, List.map_nil] at hr
  unfold bX at hr
  refine RSpec.of_awp envOf_ok hmix Tryz.func64 rfl (fun args w => Tryz.call64 args w) (by simp [Tryz.f64]) ?_
  simp only [Tryz.f64]
  simp (maxSteps := 2000000) -implicitDefEqProofs only [zz, zE, evop, ev, ofVal, tget, tput, ok, V.isUndef, intBin, Ch.on, calleeOf, withArgs, told, hget, hput, V.cells, structAt, isPtr, Blk.width, resOf, resVs, ↓reduceIte, reduceCtorEq, Nat.reduceLT, Nat.reduceEqDiff, Nat.reduceAdd, Nat.reduceLeDiff, nilTest, initV, dS]
  unfold bX
  simp (maxSteps := 2000000) -implicitDefEqProofs only [zz, ↓reduceIte, e1, e2, e3, e4, e5, e6, e7]
  refine acall_ref [0] (hr) (by first | rfl | simp [renL, V.ren, frρ, renL_ds]) (by simp) rfl (by simp) (by simp) (by intro j hj; match j, hj with | 0, _ => exact ⟨by simp [hget], rfl⟩) ?_
  try simp (maxSteps := 2000000) -implicitDefEqProofs only [zz, tput, hput, resOf, resVs, ↓reduceIte, Nat.reduceLT, Nat.reduceAdd, Blk.ren, V.ren, renL, frameH, putL]
  exact Weak.trimsM 1 (by simp) rfl (by simp [tget, V.lower, lowerL]) (by simp [Blk.lower, lowerL, V.lower])
end Go.Proofs.YtjhfpabldidlgaaGreat.AM

/- Step. -/
set_option linter.all false
set_option maxRecDepth 100000
set_option maxHeartbeats 8000000
namespace Go.Proofs.YtjhfpabldidlgaaGreat.AM
open Go Go.RowKit

theorem stpOk_of {c : List St} (hc : CodeOk c) {t : Ty} (hi : InvS c t) {h : List (Bool × Int)} {r : List (Int × Int)} (hl : h.length ≤ 1000000) (htl : ∀ s ∈ c, s.t.length ≤ 1000000) (hm : mayT t h r = true) {x : St} (hx : c[t.pc.toNat]? = some x) : StpOk t h r x := by
  simp only [mayT, Bool.and_eq_true, decide_eq_true_eq] at hm
  obtain ⟨⟨hh, hr⟩, hk⟩ := hm
  obtain ⟨a1, a2, a3, a4, a5, a6, a7, a8⟩ := hi.toInvT.lens hc
  obtain ⟨hlt, hst⟩ := hi.run hk
  have hrl := hi.rlen
  have hcl := hc.len
  refine ⟨hl, hr, a1, ⟨a8, by omega⟩, hi.rds, by omega, by omega, by omega, by omega, by omega, fun f hf => ?_, htl x (List.mem_of_getElem? hx), hc.may x (List.mem_of_getElem? hx)⟩
  have hfr := hi.fr
  cases hrv : t.frames.reverse with
  | nil =>
    have : t.frames = [] := by simpa using hrv
    rw [this] at hf; simp at hf
  | cons g fs =>
    obtain ⟨s1, s2, s3, s4, s5⟩ := reverse_split hrv
    rw [s2] at hf
    cases hf
    rw [hrv] at hfr
    obtain ⟨m, e, k, h1, h2, h3, h4, h5, h6, h7, h8, h9⟩ := hfr
    have := (List.getElem?_eq_some_iff.1 h4).1
    rw [h3]
    omega

theorem c_attempt_Step (c : List St) (t : Ty) (h : List (Bool × Int)) (r : List (Int × Int)) (hc : CodeOk c) (hi : InvS c t) (hl : h.length ≤ 1000000) (htl : ∀ s ∈ c, s.t.length ≤ 1000000) :
    CSpec Tryz.prog 20 [dT t, .vec (c.map dS), .vec (h.map dC), .vec (r.map dW)] (.tuple [dT (stepT t c h r), .int .i64 (if mayT t h r = true then 0 else 1)]) := by
  have bad : mayT t h r = false → stepT t c h r = t ∧ (if mayT t h r = true then (0 : Int) else 1) = 1 := fun e => by simp [stepT, e]
  have hpc0 := hi.pc0
  refine CSpec.of_awp envOf_ok hmix Tryz.func20 rfl (fun args w => Tryz.call20 args w) (by simp [Tryz.f20]) ?_
  simp only [Tryz.f20]
  simp (maxSteps := 2000000) -implicitDefEqProofs only [zz, zE, evop, ev, tget, V.isUndef, initT, V.cells, ↓reduceIte, Nat.reduceAdd]
  unfold dT tyC
  simp (maxSteps := 2000000) -implicitDefEqProofs only [zz, zE, evop, ev, ofVal, tget, tput, ok, V.isUndef, Ch.on, calleeOf, withArgs, hput, ↓reduceIte, reduceCtorEq, Nat.reduceLT, Nat.reduceEqDiff]
  refine acall_flat (by first | rfl | (simp only [xports, xport, hget]; rfl)) (c_heap_Right h) rfl ?_
  try simp (maxSteps := 2000000) -implicitDefEqProofs only [zz, zE, evop, ev, ofVal, tget, tput, ok, V.isUndef, guardOf, Ch.on, calleeOf, withArgs, told, xport, xports, hget, hput, V.cells, V.one, splice, resOf, resV, resVs, ↓reduceIte, reduceCtorEq, Nat.reduceLT, Nat.reduceEqDiff, Nat.reduceAdd, Nat.reduceLeDiff]
  cases hh : heapR h with
  | false =>
    obtain ⟨b1, b2⟩ := bad (by simp [mayT, hh])
    rw [b1, b2]
    simp (maxSteps := 2000000) -implicitDefEqProofs only [zz, ↓reduceIte]
  | true =>
    simp (maxSteps := 2000000) -implicitDefEqProofs only [zz, ↓reduceIte]
    refine acall_flat (by first | rfl | (simp only [xports, xport, hget]; rfl)) (c_stripe_Right r) rfl ?_
    try simp (maxSteps := 2000000) -implicitDefEqProofs only [zz, zE, evop, ev, ofVal, tget, tput, ok, V.isUndef, intBin, guardOf, Ch.on, told, xport, xports, hget, hput, V.cells, D.cells, V.one, structAt, sliceOf, partsV, Blk.width, lenOf, splice, resOf, resV, resVs, ↓reduceIte, reduceCtorEq, Nat.reduceLT, Nat.reduceEqDiff, Nat.reduceAdd, Nat.reduceLeDiff, nilTest]
    cases hr : tableR r with
    | false =>
      obtain ⟨b1, b2⟩ := bad (by simp [mayT, hr])
      rw [b1, b2]
      simp (maxSteps := 2000000) -implicitDefEqProofs only [zz, ↓reduceIte]
    | true =>
      by_cases hk : t.kind = 0
      case neg =>
        obtain ⟨b1, b2⟩ := bad (by simp [mayT, hk])
        have ek : (t.kind != 0) = true := by simpa using hk
        rw [b1, b2]
        simp (maxSteps := 2000000) -implicitDefEqProofs only [zz, ↓reduceIte, ek]
      have ek : (t.kind != 0) = false := by simpa using hk
      obtain ⟨hlt, hst⟩ := hi.run hk
      have hmay : mayT t h r = true := by simp [mayT, hh, hr, hk]
      have p1 : ¬ (t.pc < 0) := by omega
      have p2 : ¬ (t.pc ≥ (c.length : Int)) := by omega
      have hx : c[t.pc.toNat]? = some (c[t.pc.toNat]'(by omega)) := List.getElem?_eq_getElem (by omega)
      generalize c[t.pc.toNat]'(by omega) = x at hx
      have hg : stepT t c h r = if (doT t x h r).kind ≠ 0 then doT t x h r else setT c.length (doT t x h r) := by unfold stepT; rw [if_pos hmay]; unfold stpT; rw [hx]
      have hd := r_x_do t h r x (stpOk_of hc hi hl htl hmay hx)
      obtain ⟨inv, _, _, _⟩ := hi.doT hc hmay hx
      obtain ⟨a1, a2, a3, a4, a5, a6, a7, a8⟩ := inv.lens hc
      have hs := c_settled (doT t x h r) c (by omega) (by omega) (by omega)
      rw [hg, if_pos hmay]
      simp only [dS] at hd
      unfold bX at hd
      simp (maxSteps := 2000000) -implicitDefEqProofs only [zz, zE, evop, ev, tget, tput, ok, Ch.on, calleeOf, withArgs, D.cells, loadD, ↓reduceIte, Nat.reduceLT, Nat.reduceEqDiff, Nat.reduceAdd, Nat.reduceLeDiff, dS, ek, p1, p2, List.getElem?_map, hx, Option.map_some, hpc0]
      refine acall_ref [2] (hd) (by first | rfl | simp [renL, V.ren, frρ, renL_ds]) (by simp) rfl (by simp) (by simp) (by intro j hj; match j, hj with | 0, _ => exact ⟨by simp [hget], rfl⟩) ?_
      try simp (maxSteps := 2000000) -implicitDefEqProofs only [zz, zE, evop, ev, ofVal, tget, tput, ok, V.isUndef, intBin, Ch.on, calleeOf, withArgs, told, xport, xports, hget, hput, V.cells, V.one, structAt, isPtr, Blk.width, splice, resOf, resV, resVs, ↓reduceIte, reduceCtorEq, Nat.reduceLT, Nat.reduceEqDiff, Nat.reduceAdd, Nat.reduceLeDiff, nilTest, Blk.ren, V.ren, renL, frameH, putL]
      generalize doT t x h r = u at hs
      by_cases hu : u.kind = 0
      · have eu : (u.kind != 0) = false := by simpa using hu
        have hn := not_not_intro hu
        rw [if_neg hn]
        unfold dT tyC at hs
        simp (maxSteps := 2000000) -implicitDefEqProofs only [zz, ↓reduceIte, eu]
        refine acall_ice (by first | rfl | (simp only [xports, xport, hget]; rfl)) (hs) ?_
        try simp (maxSteps := 2000000) -implicitDefEqProofs only [zz, zE, evop, ev, ofVal, tget, tput, ok, V.isUndef, Ch.on, xport, xports, tids, tidss, hget, hput, freeze, V.cells, V.one, splice, resOf, resV, resVs, ↓reduceIte, Nat.reduceLT, Nat.reduceEqDiff, Nat.reduceAdd, Nat.reduceLeDiff]
      · have eu : (u.kind != 0) = true := by simpa using hu
        rw [if_pos hu]
        simp (maxSteps := 2000000) -implicitDefEqProofs only [↓reduceIte, eu]
end Go.Proofs.YtjhfpabldidlgaaGreat.AM

/- Codes and tries as the document's; small ones; Run. -/
set_option linter.all false
set_option maxRecDepth 100000
set_option maxHeartbeats 8000000
namespace Go.Proofs.YtjhfpabldidlgaaGreat.AM
open Go Go.RowKit

theorem okEl_S (l : List St) : ∀ e ∈ l.map dS, okEl 4 e = true := by
  intro e he
  obtain ⟨w, _, rfl⟩ := List.mem_map.1 he
  rfl

theorem c_law07_Ref (t : List (Int × Int)) (hl : t.length ≤ 1000000) : CSpec Tryz.prog 58 [.vec (t.map dW)] (.vec (t.map dW)) := by
  refine CSpec.of_awp envOf_ok hmix Tryz.func58 rfl (fun args w => Tryz.call58 args w) (by simp [Tryz.f58]) ?_
  simp only [Tryz.f58]
  simp (maxSteps := 2000000) -implicitDefEqProofs only [zz, zE, evop, ev, ofVal, tget, tput, ok, V.isUndef, initT, Ch.on, sliceOf, lenOf, ↓reduceIte, reduceCtorEq, Nat.reduceLT]
  refine wloop_count t.length (fun i => [(8, .d (.int .i64 i)), (7, .d (.int .i64 t.length)), (6, .d (.vec (t.map dW))), (3, .own 0 0 i)]) (fun i => [.dat false 2 ((t.take i).map dW)]) (fun _ => True) trivial ?_ (fun i hi _ => ?_) (fun _ => ?_)
  · refine Weak.pick [7] (by simp) (by simp) rfl (fun q hq => ?_) (fun i hi => ?_)
    · simp only [List.mem_cons, List.not_mem_nil, or_false] at hq
      rcases hq with rfl | rfl | rfl | rfl
      · exact .same _
      · exact .same _
      · exact .same _
      · exact .nils 0 2 rfl
    · obtain rfl : i = 0 := by simpa using hi
      exact .virt 2 rfl rfl
  · have hx : t[i]? = some t[i] := List.getElem?_eq_getElem hi
    have h' : ((i : Int) < (t.length : Int)) := by omega
    have hw : IntKind.i64.wrap ((i : Int) + 1) = ((i + 1 : Nat) : Int) := by rw [wrap_in (by omega)]; omega
    have hT : t.take (i + 1) = t.take i ++ [t[i]] := by rw [List.take_succ, hx]; rfl
    have e6 : List.take i ((t.take i).map dW) = (t.take i).map dW := by rw [List.take_of_length_le]; rw [List.length_map, List.length_take]; omega
    simp (maxSteps := 2000000) -implicitDefEqProofs only [zz, zE, evop, ev, ofVal, tget, tput, ok, V.isUndef, intBin, Ch.on, told, hget, hput, V.cells, D.cells, V.one, V.clo, clos, V.toD, loadD, sliceOf, partsD, elems, splice, ↓reduceIte, Nat.reduceLT, Nat.reduceEqDiff, Nat.reduceAdd, Nat.reduceMul, Nat.reduceLeDiff, nilTest, dW, h', List.getElem?_map, hx, Option.map_some, Int.natCast_nonneg, hw]
    refine ⟨⟨by omega, okEl_W [t[i]]⟩, ?_⟩
    rw [hT, e6, List.map_append]
    refine Weak.pick [3] (by decide) (by simp) rfl (fun q hq => ?_) (fun i hi => ?_)
    · simp only [List.mem_cons, List.not_mem_nil, or_false] at hq
      rcases hq with rfl | rfl | rfl | rfl <;> exact .same _
    · match i, hi with
      | 0, _ => exact .dat _ _ _ rfl rfl
      | i + 1, hi => exact absurd hi (by simp)
  · have h' : ¬ ((t.length : Int) < (t.length : Int)) := by omega
    rw [List.take_length]
    simp (maxSteps := 2000000) -implicitDefEqProofs only [zz, evop, ev, tget, tput, ok, V.isUndef, intBin, Ch.on, told, xport, hget, resOf, resV, resVs, ↓reduceIte, Nat.reduceLT, Nat.reduceEqDiff, nilTest, h']
    rw [List.take_of_length_le (by simp)]

theorem c_law08_Ref (t : List St) (hl : t.length ≤ 1000000) (ht : ∀ s ∈ t, s.t.length ≤ 1000000) : CSpec Tryz.prog 17 [.vec (t.map dS)] (.vec (t.map dS)) := by
  refine CSpec.of_awp envOf_ok hmix Tryz.func17 rfl (fun args w => Tryz.call17 args w) (by simp [Tryz.f17]) ?_
  simp only [Tryz.f17]
  simp (maxSteps := 2000000) -implicitDefEqProofs only [zz, zE, evop, ev, ofVal, tget, tput, ok, V.isUndef, initT, Ch.on, sliceOf, lenOf, ↓reduceIte, reduceCtorEq, Nat.reduceLT]
  refine wloop_count t.length (fun i => [(8, .d (.int .i64 i)), (7, .d (.int .i64 t.length)), (6, .d (.vec (t.map dS))), (3, .own 0 0 i)]) (fun i => [.dat false 4 ((t.take i).map dS)]) (fun _ => True) trivial ?_ (fun i hi _ => ?_) (fun _ => ?_)
  · refine Weak.pick [7] (by simp) (by simp) rfl (fun q hq => ?_) (fun i hi => ?_)
    · simp only [List.mem_cons, List.not_mem_nil, or_false] at hq
      rcases hq with rfl | rfl | rfl | rfl
      · exact .same _
      · exact .same _
      · exact .same _
      · exact .nils 0 4 rfl
    · obtain rfl : i = 0 := by simpa using hi
      exact .virt 4 rfl rfl
  · have hx : t[i]? = some t[i] := List.getElem?_eq_getElem hi
    have h' : ((i : Int) < (t.length : Int)) := by omega
    have hw : IntKind.i64.wrap ((i : Int) + 1) = ((i + 1 : Nat) : Int) := by rw [wrap_in (by omega)]; omega
    have hT : t.take (i + 1) = t.take i ++ [t[i]] := by rw [List.take_succ, hx]; rfl
    have e6 : List.take i ((t.take i).map dS) = (t.take i).map dS := by rw [List.take_of_length_le]; rw [List.length_map, List.length_take]; omega
    simp (maxSteps := 2000000) -implicitDefEqProofs only [zz, zE, evop, ev, tget, tput, ok, intBin, Ch.on, told, hget, hput, V.cells, D.cells, V.one, loadD, splice, ↓reduceIte, Nat.reduceLT, Nat.reduceEqDiff, Nat.reduceAdd, Nat.reduceLeDiff, nilTest, dS, h', List.getElem?_map, hx, Option.map_some, Int.natCast_nonneg]
    refine wdraw_plan [⟨[], false, [13, 14, 15, 16, 17, 18, 19, 20, 21, 22, 23], [], false⟩, ⟨[], false, [12, 15, 16, 17, 18, 19, 20, 21], [0], false⟩, ⟨[1], false, [12, 15, 16, 17, 18, 19, 20, 21], [0], false⟩, ⟨[], false, [12, 13, 14, 17, 18, 19, 20, 21], [0, 1, 2], false⟩, ⟨[3], false, [12, 13, 14, 17, 18, 19, 20, 21], [0, 1, 2], false⟩, ⟨[], false, [12, 13, 14, 15, 16, 19, 20, 21], [0, 1, 2, 3, 4], false⟩, ⟨[5], false, [12, 13, 14, 15, 16, 19, 20, 21], [0, 1, 2, 3, 4], false⟩, ⟨[], false, [12, 13, 14, 15, 16, 17, 18], [0, 1, 2, 3, 4, 5, 6], false⟩, ⟨[7], false, [12, 13, 14, 15, 16, 17, 18], [0, 1, 2, 3, 4, 5, 6], false⟩, ⟨[7, 8], false, [12, 13, 14, 15, 16, 17, 18], [0, 1, 2, 3, 4, 5, 6], false⟩, ⟨[1, 2, 3, 4, 5, 6, 7, 8, 9], false, [12], [0], false⟩, ⟨[1, 2, 3, 4, 5, 6, 7, 8, 9, 10], false, [12], [0], false⟩, ⟨[0, 1, 2, 3, 4, 5, 6, 7, 8, 9, 10, 11], true, [], [], false⟩, ⟨[0, 1, 2, 3, 4, 5, 6, 7, 8, 9, 10, 11, 12], true, [], [], false⟩] (by decide) ?_
    simp (maxSteps := 2000000) -implicitDefEqProofs only [zz, zE, evop, ev, ofVal, tget, tput, ok, V.isUndef, calleeOf, withArgs, hget, hput, V.cells, D.cells, V.toD, loadD, structAt, sliceOf, partsD, partsV, Blk.width, elems, splice, ↓reduceIte, reduceCtorEq, Nat.reduceLT, Nat.reduceEqDiff, Nat.reduceAdd, Nat.reduceMul, Nat.reduceLeDiff]
    refine dcall_still (by first | rfl | (simp only [xports, xport, hget]; rfl)) (c_law07_Ref t[i].t (ht _ (List.getElem_mem hi))) rfl ?_
    try simp (maxSteps := 2000000) -implicitDefEqProofs only [zz, evop, ev, ofVal, tget, tput, ok, V.isUndef, intBin, Ch.on, hget, hput, V.one, V.clo, clos, ↓reduceIte, Nat.reduceLT, Nat.reduceEqDiff, Nat.reduceAdd, Nat.reduceLeDiff, nilTest]
    refine ⟨⟨by omega, okEl_S [t[i]]⟩, ?_⟩
    rw [hw, hT, e6, List.map_append]
    refine Weak.pick [14] (by decide) (by simp) rfl (fun q hq => ?_) (fun i hi => ?_)
    · simp only [List.mem_cons, List.not_mem_nil, or_false] at hq
      rcases hq with rfl | rfl | rfl | rfl <;> exact .same _
    · match i, hi with
      | 0, _ => exact .dat _ _ _ rfl rfl
      | i + 1, hi => exact absurd hi (by simp)
  · have h' : ¬ ((t.length : Int) < (t.length : Int)) := by omega
    rw [List.take_length]
    simp (maxSteps := 2000000) -implicitDefEqProofs only [zz, evop, ev, tget, tput, ok, V.isUndef, intBin, Ch.on, told, xport, hget, resOf, resV, resVs, ↓reduceIte, Nat.reduceLT, Nat.reduceEqDiff, nilTest, h']
    rw [List.take_of_length_le (by simp)]

def smallC (c : List St) : Int := if (c.any fun s => decide (20 < s.t.length)) = true ∨ 40 < c.length then -1 else c.length
theorem smallC_0 {c : List St} (h : ¬ smallC c < 0) : c.length ≤ 40 ∧ ∀ s ∈ c, s.t.length ≤ 20 := by
  unfold smallC at h
  split at h
  · simp at h
  · rename_i h1
    simp only [not_or, List.any_eq_true, decide_eq_true_eq, not_exists, not_and, Nat.not_lt] at h1
    exact ⟨h1.2, h1.1⟩

theorem c_law08_Small (c : List St) (hl : c.length ≤ 9223372036854775807) : CSpec Tryz.prog 12 [.vec (c.map dS)] (.int .i64 (smallC c)) := by
  refine CSpec.of_awp envOf_ok hmix Tryz.func12 rfl (fun args w => Tryz.call12 args w) (by simp [Tryz.f12]) ?_
  simp only [Tryz.f12]
  simp (maxSteps := 2000000) -implicitDefEqProofs only [zz, zE, evop, ev, ofVal, tget, tput, ok, V.isUndef, initT, Ch.on, sliceOf, lenOf, ↓reduceIte, reduceCtorEq, Nat.reduceLT, Int.reduceNeg]
  refine wloop_count c.length (fun i => [(7, .d (.int .i64 i)), (6, .d (.int .i64 c.length)), (5, .d (.vec (c.map dS))), (0, .d (.vec (c.map dS)))]) (fun _ => []) (fun i => ∀ (j : Nat) (x : St), j < i → c[j]? = some x → x.t.length ≤ 20) (fun j x hj => by omega) (Weak.sub (by simp [tget])) (fun i hi hI => ?_) (fun hI => ?_)
  · have hx : c[i]? = some c[i] := List.getElem?_eq_getElem hi
    have h' : ((i : Int) < (c.length : Int)) := by omega
    have hw : IntKind.i64.wrap ((i : Int) + 1) = ((i + 1 : Nat) : Int) := by rw [wrap_in (by omega)]; omega
    simp (maxSteps := 2000000) -implicitDefEqProofs only [zz, zE, evop, ev, ofVal, tget, tput, ok, V.isUndef, intBin, Ch.on, told, xport, hget, hput, V.cells, D.cells, V.one, loadD, structAt, sliceOf, Blk.width, lenOf, splice, resOf, resV, resVs, ↓reduceIte, reduceCtorEq, Nat.reduceLT, Nat.reduceEqDiff, Nat.reduceAdd, Nat.reduceLeDiff, Int.reduceNeg, nilTest, dS, h', List.getElem?_map, hx, Option.map_some, Int.natCast_nonneg, hw]
    by_cases h20 : ((c[i].t.length : Int) > 20)
    · simp (maxSteps := 2000000) -implicitDefEqProofs only [↓reduceIte, Int.reduceNeg, h20]
      have : (c.any fun s => decide (20 < s.t.length)) = true := List.any_eq_true.2 ⟨_, List.getElem_mem hi, by simp; omega⟩
      simp [smallC, this]
    · simp (maxSteps := 2000000) -implicitDefEqProofs only [zz, ↓reduceIte, h20]
      refine ⟨fun j x hj hxj => ?_, Weak.trims 0 rfl (by simp [tget, V.lower]) (by simp)⟩
      by_cases e : j = i
      · subst e; rw [hx] at hxj; cases hxj; omega
      · exact hI j x (by omega) hxj
  · have h' : ¬ ((c.length : Int) < (c.length : Int)) := by omega
    have hany : (c.any fun s => decide (20 < s.t.length)) = false := by
      rw [List.any_eq_false]
      intro x hx
      obtain ⟨j, hj, rfl⟩ := List.getElem_of_mem hx
      have := hI j _ hj (List.getElem?_eq_getElem hj)
      simp; omega
    by_cases h40 : ((c.length : Int) > 40)
    · simp (maxSteps := 2000000) -implicitDefEqProofs only [zz, zE, evop, ev, ofVal, tget, tput, ok, V.isUndef, intBin, Ch.on, told, xport, sliceOf, lenOf, resOf, resV, resVs, ↓reduceIte, reduceCtorEq, Nat.reduceLT, Nat.reduceEqDiff, Int.reduceNeg, nilTest, h', h40]
      have : 40 < c.length := by omega
      simp [smallC, this]
    · simp (maxSteps := 2000000) -implicitDefEqProofs only [zz, zE, evop, ev, ofVal, tget, tput, ok, V.isUndef, intBin, Ch.on, told, xport, sliceOf, lenOf, resOf, resV, resVs, ↓reduceIte, reduceCtorEq, Nat.reduceLT, Nat.reduceEqDiff, Int.reduceNeg, nilTest, h', h40]
      have : ¬ 40 < c.length := by omega
      simp [smallC, this, hany]

/-- A heap, and a table. -/
abbrev Wo := List (Bool × Int) × List (Int × Int)
def dWo (w : Wo) : D := .agg [.vec (w.1.map dC), .vec (w.2.map dW)]
def smallL (l : List Wo) : Bool := (l.all fun w => decide (w.1.length ≤ 80) && decide (w.2.length ≤ 30)) && decide (l.length ≤ 60)
theorem smallL_t {l : List Wo} (h : smallL l = true) : l.length ≤ 60 ∧ ∀ w ∈ l, w.1.length ≤ 80 ∧ w.2.length ≤ 30 := by
  simp only [smallL, Bool.and_eq_true, List.all_eq_true, decide_eq_true_eq] at h
  exact ⟨h.2, h.1⟩

theorem c_law11_small (l : List Wo) (hl : l.length ≤ 9223372036854775807) : CSpec Tryz.prog 13 [.vec (l.map dWo)] (.bool (smallL l)) := by
  refine CSpec.of_awp envOf_ok hmix Tryz.func13 rfl (fun args w => Tryz.call13 args w) (by simp [Tryz.f13]) ?_
  simp only [Tryz.f13]
  simp (maxSteps := 2000000) -implicitDefEqProofs only [zz, zE, evop, ev, ofVal, tget, tput, ok, V.isUndef, initT, Ch.on, sliceOf, lenOf, ↓reduceIte, reduceCtorEq, Nat.reduceLT]
  refine wloop_count l.length (fun i => [(7, .d (.int .i64 i)), (6, .d (.int .i64 l.length)), (5, .d (.vec (l.map dWo))), (0, .d (.vec (l.map dWo)))]) (fun _ => []) (fun i => ∀ (j : Nat) (x : Wo), j < i → l[j]? = some x → x.1.length ≤ 80 ∧ x.2.length ≤ 30) (fun j x hj => by omega) (Weak.sub (by simp [tget])) (fun i hi hI => ?_) (fun hI => ?_)
  · have hx : l[i]? = some l[i] := List.getElem?_eq_getElem hi
    have h' : ((i : Int) < (l.length : Int)) := by omega
    have hw : IntKind.i64.wrap ((i : Int) + 1) = ((i + 1 : Nat) : Int) := by rw [wrap_in (by omega)]; omega
    have bad : ¬ (l[i].1.length ≤ 80 ∧ l[i].2.length ≤ 30) → smallL l = false := fun h => by
      cases hs : smallL l with
      | false => rfl
      | true => exact absurd ((smallL_t hs).2 _ (List.getElem_mem hi)) h
    simp (maxSteps := 2000000) -implicitDefEqProofs only [zz, zE, evop, ev, ofVal, tget, tput, ok, V.isUndef, intBin, guardOf, Ch.on, told, xport, hget, hput, V.cells, D.cells, V.one, loadD, structAt, sliceOf, Blk.width, lenOf, splice, resOf, resV, resVs, ↓reduceIte, reduceCtorEq, Nat.reduceLT, Nat.reduceEqDiff, Nat.reduceAdd, Nat.reduceLeDiff, nilTest, h', dWo, List.getElem?_map, hx, Option.map_some, Int.natCast_nonneg, hw]
    by_cases h80 : ((l[i].1.length : Int) > 80)
    · simp (maxSteps := 2000000) -implicitDefEqProofs only [zz, ↓reduceIte, h80]
      rw [bad (by omega)]
    by_cases h30 : ((l[i].2.length : Int) > 30)
    · simp (maxSteps := 2000000) -implicitDefEqProofs only [zz, ↓reduceIte, h80, h30]
      rw [bad (by omega)]
    simp (maxSteps := 2000000) -implicitDefEqProofs only [zz, ↓reduceIte, h80, h30]
    refine ⟨fun j x hj hxj => ?_, Weak.trims 0 rfl (by simp [tget, V.lower, dWo]) (by simp)⟩
    by_cases e : j = i
    · subst e; rw [hx] at hxj; cases hxj; omega
    · exact hI j x (by omega) hxj
  · have h' : ¬ ((l.length : Int) < (l.length : Int)) := by omega
    have hall : (l.all fun w => decide (w.1.length ≤ 80) && decide (w.2.length ≤ 30)) = true := by
      rw [List.all_eq_true]
      intro x hx
      obtain ⟨j, hj, rfl⟩ := List.getElem_of_mem hx
      have := hI j _ hj (List.getElem?_eq_getElem hj)
      simp; omega
    by_cases h60 : ((l.length : Int) ≤ 60)
    · simp (maxSteps := 2000000) -implicitDefEqProofs only [zz, zE, evop, ev, ofVal, tget, tput, ok, V.isUndef, intBin, Ch.on, told, xport, sliceOf, lenOf, resOf, resV, resVs, ↓reduceIte, reduceCtorEq, Nat.reduceLT, Nat.reduceEqDiff, nilTest, h', h60]
      have : l.length ≤ 60 := by omega
      simp [smallL, this, hall]
    · simp (maxSteps := 2000000) -implicitDefEqProofs only [zz, zE, evop, ev, ofVal, tget, tput, ok, V.isUndef, intBin, Ch.on, told, xport, sliceOf, lenOf, resOf, resV, resVs, ↓reduceIte, reduceCtorEq, Nat.reduceLT, Nat.reduceEqDiff, nilTest, h', h60]
      have : ¬ l.length ≤ 60 := by omega
      simp [smallL, this]
end Go.Proofs.YtjhfpabldidlgaaGreat.AM

/- Run. -/
set_option linter.all false
set_option maxRecDepth 100000
set_option maxHeartbeats 8000000
namespace Go.Proofs.YtjhfpabldidlgaaGreat.AM
open Go Go.RowKit

/-- Step by step, so often at most: the try, and how many steps it took. -/
def itT (c : List St) (h : List (Bool × Int)) (r : List (Int × Int)) : Nat → Ty → Ty × Nat
  | 0, t => (t, 0)
  | k + 1, t => if t.kind = 0 then ((itT c h r k (stpT t c h r)).1, (itT c h r k (stpT t c h r)).2 + 1) else (t, 0)
def okW (h : List (Bool × Int)) (r : List (Int × Int)) : Bool := heapR h && tableR r
def runT (t : Ty) (c : List St) (h : List (Bool × Int)) (r : List (Int × Int)) : Ty × Nat := itT c h r (c.length + 1) t

theorem itT_stop {c : List St} {h : List (Bool × Int)} {r : List (Int × Int)} {k : Nat} {t : Ty} (hk : t.kind ≠ 0) : itT c h r k t = (t, 0) := by
  cases k with
  | zero => rfl
  | succ k => rw [itT, if_neg hk]

theorem itT_ok {c : List St} (hc : CodeOk c) {h : List (Bool × Int)} {r : List (Int × Int)} (hw : okW h r = true) : ∀ (k : Nat) (t : Ty), InvS c t → (c.length : Int) - t.pc < k → InvS c (itT c h r k t).1 ∧ (itT c h r k t).1.kind ≠ 0 ∧ (itT c h r k t).1.snap = t.snap
  | 0, t, hi, hk => by have := hi.pcl; omega
  | k + 1, t, hi, hk => by
    rw [itT]
    by_cases h0 : t.kind = 0
    · rw [if_pos h0]
      have hm : mayT t h r = true := by simp only [okW] at hw; simp [mayT, hw, h0]
      obtain ⟨s1, s2, s3, s4⟩ := hi.stp hc hm
      by_cases h1 : (stpT t c h r).kind = 0
      · have := s3 h1
        obtain ⟨i1, i2, i3⟩ := itT_ok hc hw k _ s1 (by omega)
        exact ⟨i1, i2, by simp only; rw [i3, s2]⟩
      · rw [itT_stop h1]
        exact ⟨s1, h1, s2⟩
    · rw [if_neg h0]
      exact ⟨hi, h0, rfl⟩

theorem runT_ok {c : List St} (hc : CodeOk c) {h : List (Bool × Int)} {r : List (Int × Int)} (hw : okW h r = true) {t : Ty} (hi : InvS c t) : InvS c (runT t c h r).1 ∧ (runT t c h r).1.kind ≠ 0 ∧ (runT t c h r).1.snap = t.snap :=
  itT_ok hc hw _ t hi (by have := hi.pc0; omega)

theorem c_attempt_Run (c : List St) (t : Ty) (h : List (Bool × Int)) (r : List (Int × Int)) (hc : CodeOk c) (hi : InvS c t) (hl : h.length ≤ 1000000) (htl : ∀ s ∈ c, s.t.length ≤ 1000000) :
    CSpec Tryz.prog 51 [dT t, .vec (c.map dS), .vec (h.map dC), .vec (r.map dW)]
      (if t.kind = 0 ∧ okW h r = false then .tuple [dT t, .int .i64 0, .int .i64 1] else .tuple [dT (runT t c h r).1, .int .i64 (runT t c h r).2, .int .i64 0]) := by
  have hcl := hc.len
  refine CSpec.of_awp envOf_ok hmix Tryz.func51 rfl (fun args w => Tryz.call51 args w) (by simp [Tryz.f51]) ?_
  simp only [Tryz.f51]
  simp (maxSteps := 2000000) -implicitDefEqProofs only [zz, zE, evop, ev, tget, V.isUndef, initT, V.cells, ↓reduceIte, Nat.reduceAdd]
  unfold dT tyC
  simp (maxSteps := 2000000) -implicitDefEqProofs only [zz, zE, evop, ev, ofVal, tget, tput, ok, V.isUndef, Ch.on, hget, hput, V.cells, V.one, splice, ↓reduceIte, Nat.reduceLT, Nat.reduceEqDiff, Nat.reduceAdd, Nat.reduceLeDiff]
  refine wloop_ind (σ := Ty × Nat) (fun z => c.length + 5 - z.2) (fun z => [(11, .ptr 2 0 0), (12, .d (.int .i64 z.2)), (4, .ptr 0 0 0), (8, .ptr 1 0 0), (1, .d (.vec (c.map dS))), (2, .d (.vec (h.map dC))), (3, .d (.vec (r.map dW)))]) (fun z => [bT t, bZ, bT z.1])
    (fun z => z.2 ≤ c.length + 1 ∧ (itT c h r (c.length + 1) t).1 = (itT c h r (c.length + 1 - z.2) z.1).1 ∧ (itT c h r (c.length + 1) t).2 = z.2 + (itT c h r (c.length + 1 - z.2) z.1).2 ∧ InvS c z.1 ∧ ((z.2 : Int) ≤ z.1.pc + 1) ∧ (z.1.kind = 0 → (z.2 : Int) ≤ z.1.pc) ∧ (okW h r = false → z.1 = t ∧ z.2 = 0)) (t, 0) ⟨by simp, by simp, by simp, hi, by have := hi.pc0; simp only; omega, fun _ => by have := hi.pc0; simp only; omega, fun _ => ⟨rfl, rfl⟩⟩ ?_ ?_
  · exact Weak.trims 3 rfl (by simp [tget, V.lower]) (by simp [bT, bZ, Blk.lower, lowerL, V.lower])
  rintro ⟨u, n⟩ ⟨hn, e1, e2, hu, hp1, hp2, hbad⟩
  simp only at hn e1 e2 hu hp1 hp2 hbad
  by_cases hk : u.kind = 0
  case neg =>
    have ek : (u.kind == 0) = false := by simpa using hk
    rw [itT_stop hk] at e1 e2
    have hne : ¬ (t.kind = 0 ∧ okW h r = false) := fun g => hk (by rw [(hbad g.2).1]; exact g.1)
    have g1 : (runT t c h r).1 = u := e1
    have g2 : (runT t c h r).2 = n := e2
    rw [if_neg hne, g1, g2]
    simp (maxSteps := 2000000) -implicitDefEqProofs only [zz, zE, evop, ev, ofVal, tget, tput, ok, V.isUndef, intBin, Ch.on, told, xport, xports, hget, hput, V.cells, V.one, structAt, Blk.width, splice, resOf, resV, resVs, ↓reduceIte, reduceCtorEq, Nat.reduceLT, Nat.reduceEqDiff, Nat.reduceAdd, Nat.reduceLeDiff, nilTest, bT, bZ, ek]
  have ek : (u.kind == 0) = true := by simpa using hk
  have hst := c_attempt_Step c u h r hc hu hl htl
  have hsu := hp2 hk
  have hpl := (hu.run hk).1
  cases hw : okW h r with
  | false =>
    have hm : mayT u h r = false := by simp only [okW] at hw; simp [mayT, hw]
    obtain ⟨q1, q2⟩ := hbad hw
    subst q1
    have hs1 : stepT u c h r = u := by simp [stepT, hm]
    rw [hs1, hm] at hst
    rw [if_pos ⟨hk, rfl⟩]
    unfold dT tyC at hst
    have e10 : ((1 : Int) != 0) = true := rfl
    simp (maxSteps := 2000000) -implicitDefEqProofs only [zz, zE, evop, ev, ofVal, tget, tput, ok, V.isUndef, intBin, Ch.on, calleeOf, withArgs, told, hget, structAt, Blk.width, ↓reduceIte, reduceCtorEq, Nat.reduceLT, Nat.reduceEqDiff, Nat.reduceAdd, Nat.reduceLeDiff, nilTest, bT, bZ, ek]
    refine acall_ice (by first | rfl | (simp only [xports, xport, hget]; rfl)) (hst) ?_
    try simp (maxSteps := 2000000) -implicitDefEqProofs only [zz, zE, evop, ev, ofVal, tget, tput, ok, V.isUndef, intBin, Ch.on, told, xport, xports, tids, tidss, hget, hput, freeze, V.cells, V.one, splice, resOf, resV, resVs, ↓reduceIte, Nat.reduceLT, Nat.reduceEqDiff, Nat.reduceAdd, Nat.reduceLeDiff, nilTest]
    simp (maxSteps := 2000000) -implicitDefEqProofs only [↓reduceIte, e10]
  | true =>
    have hm : mayT u h r = true := by simp only [okW] at hw; simp [mayT, hw, hk]
    have hs1 : stepT u c h r = stpT u c h r := by simp [stepT, hm]
    rw [hs1, hm] at hst
    obtain ⟨s1, s2, s3, s4⟩ := hu.stp hc hm
    have hit : itT c h r (c.length + 1 - n) u = ((itT c h r (c.length + 1 - (n + 1)) (stpT u c h r)).1, (itT c h r (c.length + 1 - (n + 1)) (stpT u c h r)).2 + 1) := by
      have : c.length + 1 - n = (c.length + 1 - (n + 1)) + 1 := by omega
      rw [this, itT, if_pos hk]
    rw [hit] at e1 e2
    have hwn : IntKind.i64.wrap ((n : Int) + 1) = ((n + 1 : Nat) : Int) := by rw [wrap_in (by omega)]; omega
    generalize stpT u c h r = v at *
    unfold dT tyC at hst
    simp (maxSteps := 2000000) -implicitDefEqProofs only [zz, zE, evop, ev, ofVal, tget, tput, ok, V.isUndef, intBin, Ch.on, calleeOf, withArgs, told, hget, structAt, Blk.width, ↓reduceIte, reduceCtorEq, Nat.reduceLT, Nat.reduceEqDiff, Nat.reduceAdd, Nat.reduceLeDiff, nilTest, bT, bZ, ek]
    refine acall_ice (by first | rfl | (simp only [xports, xport, hget]; rfl)) (hst) ?_
    try simp (maxSteps := 2000000) -implicitDefEqProofs only [zz, zE, evop, ev, ofVal, tget, tput, ok, V.isUndef, intBin, Ch.on, told, tids, tidss, hget, hput, freeze, V.cells, V.one, splice, ↓reduceIte, Nat.reduceLT, Nat.reduceEqDiff, Nat.reduceAdd, Nat.reduceLeDiff, nilTest]
    simp (maxSteps := 2000000) -implicitDefEqProofs only [hwn]
    refine ⟨(v, n + 1), ⟨by simp only; omega, e1, by simp only; rw [e2]; simp only; omega, s1, by simp only; omega, fun g => ?_⟩, by simp only; omega, ?_⟩
    · have := s3 g
      simp only; omega
    · exact Weak.trims 3 rfl (by simp [tget, V.lower]) (by simp [bT, bZ, Blk.lower, lowerL, V.lower])
end Go.Proofs.YtjhfpabldidlgaaGreat.AM

/- The fixed answer of layer 11. -/
set_option linter.all false
set_option maxRecDepth 100000
set_option maxHeartbeats 8000000
namespace Go.Proofs.YtjhfpabldidlgaaGreat.AM
open Go Go.RowKit

def k11 : List St := [⟨7, 3, 1, []⟩, ⟨3, 1, 0, [(1, 1)]⟩, ⟨1, 2, 0, []⟩, ⟨5, 0, 0, []⟩, ⟨3, 0, 0, [(1, 1)]⟩]
def h11 : List (Bool × Int) := [(true, 5), (true, 0)]
def u11 : Ty := ⟨3, 7, 5, [0, 0, 0, 0, 0, 0, 0, 0], [2], [(0, 7, 5)], ([(0, 1)], []), [], 1, 0⟩
def v11 : Ty := ⟨3, 7, 2, [0, 0, 0, 0, 0, 0, 0, 0], [1], [], ([(1, 1)], [0]), [⟨4, 5, 0, [0, 0, 0, 0, 0, 0, 0, 0]⟩], 5, 0⟩

theorem k11_code : codeC k11 = 0 := by
  have h1 : (k11.any fun s => !mayS s) = false := by decide
  have h2 : wellW k11 = (1, true) := by simp [k11, wellW]; decide
  unfold codeC
  rw [h1, h2]
  decide
theorem k11_ok : CodeOk k11 := CodeOk.of k11_code
theorem k11_t : ∀ s ∈ k11, s.t.length ≤ 1000000 := by decide
theorem n11_ok : InvS k11 (newT 3 7) := by
  have h := (setT_ok (new_ok k11_ok 3 7) rfl).1
  have e : setT (k11.length : Int) (newT 3 7) = newT 3 7 := by decide
  rwa [e] at h
theorem n11_run (r : List (Int × Int)) (hw : okW h11 r = true) (u : Ty) (n : Nat) (h : runT (newT 3 7) k11 h11 r = (u, n)) : CSpec Tryz.prog 51 [dT (newT 3 7), .vec (k11.map dS), .vec (h11.map dC), .vec (r.map dW)] (.tuple [dT u, .int .i64 n, .int .i64 0]) ∧ InvS k11 u := by
  have hr := c_attempt_Run k11 (newT 3 7) h11 r k11_ok n11_ok (by decide) k11_t
  rw [if_neg (by rw [hw]; simp), h] at hr
  have hi := (runT_ok k11_ok hw n11_ok).1
  rw [h] at hi
  exact ⟨hr, hi⟩

theorem w11_1 : CSpec Tryz.prog 15 [.vec (k11.map dS), .int .i64 3, .int .i64 7] (.tuple [dT (newT 3 7), .int .i64 0]) := by
  have h := c_attempt_Begin k11 3 7 (by decide) k11_t
  have hB : mayB k11 3 7 = true := by simp [mayB, k11_code, tickR]
  have e : begT k11 3 7 = newT 3 7 := by
    unfold begT
    rw [if_pos hB]
    decide
  rw [e, if_pos hB] at h
  exact h
theorem w11_2 : CSpec Tryz.prog 51 [dT (newT 3 7), .vec (k11.map dS), .vec (h11.map dC), .vec ([(7, 0)].map dW)] (.tuple [dT u11, .int .i64 5, .int .i64 0]) ∧ InvS k11 u11 := n11_run [(7, 0)] (by decide) u11 5 (by decide)
theorem w11_3 : CSpec Tryz.prog 51 [dT (newT 3 7), .vec (k11.map dS), .vec (h11.map dC), .vec ([(8, 0)].map dW)] (.tuple [dT v11, .int .i64 3, .int .i64 0]) ∧ InvS k11 v11 := n11_run [(8, 0)] (by decide) v11 3 (by decide)
theorem w11_4 : CSpec Tryz.prog 51 [dT (newT 3 7), .vec (k11.map dS), .vec (h11.map dC), .vec ([(0, 3)].map dW)] (.tuple [dT v11, .int .i64 3, .int .i64 0]) ∧ InvS k11 v11 := n11_run [(0, 3)] (by decide) v11 3 (by decide)
theorem w11_5 : CSpec Tryz.prog 20 [dT u11, .vec (k11.map dS), .vec (h11.map dC), .vec ([(0, 0)].map dW)] (.tuple [dT u11, .int .i64 1]) := by
  have h := c_attempt_Step k11 u11 h11 [(0, 0)] k11_ok w11_2.2 (by decide) k11_t
  have hm : mayT u11 h11 [(0, 0)] = false := by decide
  have e : stepT u11 k11 h11 [(0, 0)] = u11 := by simp [stepT, hm]
  rw [e, hm] at h
  exact h
theorem w11_6 : CSpec Tryz.prog 24 [dT u11] (dO ⟨1, 0, [0, 0, 0, 0, 0, 0, 0, 0], [2], [0], [(0, 1)]⟩) := by
  have h := c_attempt_Out u11 (by decide) (by decide) (by decide)
  have e : outT u11 = ⟨1, 0, [0, 0, 0, 0, 0, 0, 0, 0], [2], srtC [(0, 7, 5)], lastW [(0, 1)]⟩ := rfl
  have e2 : srtC [(0, 7, 5)] = [0] := by simp [srtC, cellsL, srtI]
  have e3 : lastW [(0, 1)] = [(0, 1)] := by decide
  rw [e, e2, e3] at h
  exact h

theorem c_awake11 : CSpec Tryz.prog 14 [] (.bool true) := by
  have q1 := w11_1
  have q2 := w11_2.1
  have q3 := w11_3.1
  have q4 := w11_4.1
  have q5 := w11_5
  have q6 := w11_6
  simp only [dT, tyC, newT, zeroT, u11, v11, dO, oyC, List.map_cons, List.map_nil, dI, dRd, dW, dFr] at q1 q2 q3 q4 q5 q6
  refine CSpec.of_snd envOf_ok hmix Tryz.func14 rfl (fun args w => Tryz.call14 args w) (by simp [Tryz.f14]) ?_
  simp only [Tryz.f14]
  refine Snd.upto envOf_ok hmix 2 _ ?_
  simp only [hdN, tlN]
  simp (maxSteps := 2000000) -implicitDefEqProofs only [zz, zE, evop, ev, ofVal, tget, tput, ok, V.isUndef, initT, Ch.on, hput, V.cells, D.cells, V.one, V.clo, clos, V.toD, sliceOf, partsD, partsV, splice, ↓reduceIte, Nat.reduceLT, Nat.reduceAdd, Nat.reduceMul, Nat.reduceLeDiff, cutK_normal]
  refine Snd.weak (T' := [(1, .d (.vec [dW (1, 1)]))]) (H' := []) (Weak.close [0] 0 (by simp) rfl (by simp [tget, sealF, hget, V.lower, dW]) (by simp)) ?_
  refine Snd.of_awp envOf_ok hmix ?_
  simp (maxSteps := 2000000) -implicitDefEqProofs only [zz, zE, evop, ev, ofVal, tget, tput, ok, V.isUndef, Ch.on, calleeOf, withArgs, hput, V.cells, D.cells, V.one, V.clo, clos, V.toD, sliceOf, partsD, partsV, splice, ↓reduceIte, Nat.reduceLT, Nat.reduceEqDiff, Nat.reduceAdd, Nat.reduceMul, Nat.reduceLeDiff, dW]
  refine acall_ice (by first | rfl | (simp only [xports, xport, hget]; rfl)) (q1) ?_
  try simp (maxSteps := 2000000) -implicitDefEqProofs only [zz, zE, evop, ev, ofVal, tget, tput, ok, V.isUndef, Ch.on, calleeOf, withArgs, tids, tidss, hget, hput, Blk.ice, freeze, V.cells, D.cells, V.one, V.clo, clos, V.toD, sliceOf, partsD, partsV, splice, ↓reduceIte, Nat.reduceLT, Nat.reduceEqDiff, Nat.reduceAdd, Nat.reduceMul, Nat.reduceLeDiff]
  refine acall_ice (by first | rfl | (simp only [xports, xport, hget]; rfl)) (q2) ?_
  try simp (maxSteps := 2000000) -implicitDefEqProofs only [zz, zE, evop, ev, ofVal, tget, tput, ok, V.isUndef, Ch.on, calleeOf, withArgs, tids, tidss, hget, hput, Blk.ice, freeze, V.cells, D.cells, V.one, V.clo, clos, V.toD, sliceOf, partsD, partsV, splice, ↓reduceIte, Nat.reduceLT, Nat.reduceEqDiff, Nat.reduceAdd, Nat.reduceMul, Nat.reduceLeDiff]
  refine acall_ice (by first | rfl | (simp only [xports, xport, hget]; rfl)) (q3) ?_
  try simp (maxSteps := 2000000) -implicitDefEqProofs only [zz, zE, evop, ev, ofVal, tget, tput, ok, V.isUndef, Ch.on, calleeOf, withArgs, tids, tidss, hget, hput, Blk.ice, freeze, V.cells, D.cells, V.one, V.clo, clos, V.toD, sliceOf, partsD, partsV, splice, ↓reduceIte, Nat.reduceLT, Nat.reduceEqDiff, Nat.reduceAdd, Nat.reduceMul, Nat.reduceLeDiff]
  refine acall_ice (by first | rfl | (simp only [xports, xport, hget]; rfl)) (q4) ?_
  try simp (maxSteps := 2000000) -implicitDefEqProofs only [zz, zE, evop, ev, tget, tput, ok, V.isUndef, Ch.on, calleeOf, withArgs, tids, tidss, hget, hput, Blk.ice, freeze, V.cells, D.cells, V.one, V.clo, clos, V.toD, sliceOf, partsD, partsV, splice, ↓reduceIte, Nat.reduceLT, Nat.reduceEqDiff, Nat.reduceAdd, Nat.reduceMul, Nat.reduceLeDiff]
  refine acall_ice (by first | rfl | (simp only [xports, xport, hget]; rfl)) (q5) ?_
  try simp (maxSteps := 2000000) -implicitDefEqProofs only [zz, zE, evop, ev, tget, tput, ok, V.isUndef, Ch.on, calleeOf, withArgs, tids, tidss, hget, hput, Blk.ice, freeze, V.cells, V.one, splice, ↓reduceIte, Nat.reduceLT, Nat.reduceEqDiff, Nat.reduceAdd, Nat.reduceLeDiff]
  refine acall_ice (by first | rfl | (simp only [xports, xport, hget]; rfl)) (q6) ?_
  try simp (maxSteps := 2000000) -implicitDefEqProofs only [zz, zE, evop, ev, ofVal, tget, tput, ok, V.isUndef, intBin, guardOf, Ch.on, xport, tids, tidss, hget, hput, freeze, V.cells, D.cells, V.one, loadD, structAt, sliceOf, Blk.width, lenOf, splice, resOf, resV, resVs, ↓reduceIte, reduceCtorEq, Nat.reduceLT, Nat.reduceEqDiff, Nat.reduceAdd, Nat.reduceLeDiff, nilTest]
  simp
end Go.Proofs.YtjhfpabldidlgaaGreat.AM

/- The document: are codes well. -/
set_option linter.all false
set_option maxRecDepth 100000
set_option maxHeartbeats 4000000
namespace Go.Proofs.YtjhfpabldidlgaaGreat.AM
open Go Go.RowKit


theorem c_r08_well : ∀ (N : Nat) (l : List St) (f t : Nat), t - f ≤ N → f ≤ t → t ≤ l.length → l.length ≤ 1000000 → (∀ s ∈ l, mayS s = true) →
    CSpec Tryz.prog 107 [.vec (l.map dS), .int .i64 f, .int .i64 t] ((D.tuple [.int .i64 (wellW ((l.take t).drop f)).1, .bool (wellW ((l.take t).drop f)).2])) := by
  intro N
  induction N with
  | zero =>
    intro l f t h1 h2 h3 hl hm
    obtain rfl : f = t := by omega
    have e : (l.take f).drop f = [] := List.drop_eq_nil_of_le (by simp; omega)
    have e1 : (D.tuple [.int .i64 (wellW []).1, .bool (wellW []).2]) = .tuple [.int .i64 0, .bool true] := by simp [wellW]
    have e2 : ((f : Int) == (f : Int)) = true := by simp
    rw [e, e1]
    refine CSpec.of_awp envOf_ok hmix Tryz.func107 rfl (fun args w => Tryz.call107 args w) (by simp [Tryz.f107]) ?_
    simp only [Tryz.f107]
    simp (maxSteps := 2000000) -implicitDefEqProofs only [zz, evop, ev, ofVal, tget, tput, ok, V.isUndef, intBin, initT, Ch.on, told, xport, xports, resOf, resV, resVs, ↓reduceIte, reduceCtorEq, Nat.reduceLT, Nat.reduceEqDiff, Nat.reduceAdd, nilTest]
  | succ N ih =>
    intro l f t h1 h2 h3 hl hm
    rcases Nat.eq_or_lt_of_le h2 with heq | hlt
    · subst heq
      exact ih l f f (by omega) h2 h3 hl hm
    have hx : l[f]? = some l[f] := List.getElem?_eq_getElem (by omega)
    obtain ⟨s, hs⟩ : ∃ s, s = l[f] := ⟨_, rfl⟩
    rw [← hs] at hx
    have hms := mayS_rng (hm s (by rw [hs]; exact List.getElem_mem _))
    obtain ⟨r, hr⟩ : ∃ r, r = (l.take t).drop (f + 1) := ⟨_, rfl⟩
    have hrl : (r.length : Int) = t - f - 1 := by rw [hr]; simp; omega
    have hd : (l.take t).drop f = s :: r := by
      rw [hs, hr, List.drop_eq_getElem_cons (by simp; omega)]
      simp
    rw [hd]
    have e2 : ((f : Int) == (t : Int)) = false := by simp; omega
    have w1 : IntKind.i64.wrap ((f : Int) + 1) = ((f + 1 : Nat) : Int) := by rw [wrap_in (by omega)]; omega
    refine CSpec.of_awp envOf_ok hmix Tryz.func107 rfl (fun args w => Tryz.call107 args w) (by simp [Tryz.f107]) ?_
    simp only [Tryz.f107]
    simp (maxSteps := 2000000) -implicitDefEqProofs only [zz, zE, evop, ev, ofVal, tget, tput, ok, V.isUndef, intBin, initT, Ch.on, told, xport, xports, D.cells, resOf, resV, resVs, ↓reduceIte, reduceCtorEq, Nat.reduceLT, Nat.reduceEqDiff, Nat.reduceAdd, nilTest]
    simp (maxSteps := 2000000) -implicitDefEqProofs only [zz, zE, evop, ev, ofVal, tget, tput, ok, V.isUndef, intBin, guardOf, Ch.on, calleeOf, withArgs, told, xport, xports, hget, hput, V.cells, D.cells, V.one, loadD, structAt, Blk.width, splice, resOf, resV, resVs, ↓reduceIte, reduceCtorEq, Nat.reduceLT, Nat.reduceEqDiff, Nat.reduceAdd, Nat.reduceLeDiff, nilTest, dS, e2, List.getElem?_map, hx, Option.map_some, Int.natCast_nonneg, w1]
    by_cases h7 : s.d = 7
    case neg =>
      have e7 : (s.d != 7) = true := by simpa using h7
      by_cases h4 : s.d = 4
      · have e4 : (s.d == 4) = true := by simp [h4]
        have w2 : IntKind.i64.wrap (((f + 1 : Nat) : Int) + s.a) = ((f + 1 : Nat) : Int) + s.a := by rw [wrap_in (by have := hms.1 h4; omega)]
        by_cases hf : s.a > (r.length : Int)
        · have hf' : ((f + 1 : Nat) : Int) + s.a > (t : Int) := by omega
          have e : (D.tuple [.int .i64 (wellW (s :: r)).1, .bool (wellW (s :: r)).2]) = .tuple [.int .i64 0, .bool false] := by rw [wellW, if_pos ⟨h4, hf⟩]
          rw [e]
          simp (maxSteps := 2000000) -implicitDefEqProofs only [↓reduceIte, e4, w2, hf']
        · have hf' : ¬ ((f + 1 : Nat) : Int) + s.a > (t : Int) := by omega
          have e : (D.tuple [.int .i64 (wellW (s :: r)).1, .bool (wellW (s :: r)).2]) = (D.tuple [.int .i64 (wellW r).1, .bool (wellW r).2]) := by rw [wellW, if_neg (fun h => hf h.2), if_pos h7]
          rw [e, hr]
          simp (maxSteps := 2000000) -implicitDefEqProofs only [zz, ↓reduceIte, e7, e4, w2, hf']
          refine acall_flat (by first | rfl | (simp only [xports, xport, hget]; rfl)) (ih l (f + 1) t (by omega) (by omega) h3 hl hm) rfl ?_
          try simp (maxSteps := 2000000) -implicitDefEqProofs only [zz, evop, ev, tget, tput, ok, V.isUndef, Ch.on, xport, xports, resOf, resV, resVs, ↓reduceIte, Nat.reduceLT, Nat.reduceEqDiff]
      · have e4 : (s.d == 4) = false := by simp [h4]
        have e : (D.tuple [.int .i64 (wellW (s :: r)).1, .bool (wellW (s :: r)).2]) = (D.tuple [.int .i64 (wellW r).1, .bool (wellW r).2]) := by rw [wellW, if_neg (fun h => h4 h.1), if_pos h7]
        rw [e, hr]
        simp (maxSteps := 2000000) -implicitDefEqProofs only [zz, ↓reduceIte, e7, e4]
        refine acall_flat (by first | rfl | (simp only [xports, xport, hget]; rfl)) (ih l (f + 1) t (by omega) (by omega) h3 hl hm) rfl ?_
        try simp (maxSteps := 2000000) -implicitDefEqProofs only [zz, evop, ev, tget, tput, ok, V.isUndef, Ch.on, xport, xports, resOf, resV, resVs, ↓reduceIte, Nat.reduceLT, Nat.reduceEqDiff]
    have e7 : (s.d != 7) = false := by simp [h7]
    have e4 : (s.d == 4) = false := by simp [h7]
    obtain ⟨a1, a2, b1, b2⟩ := hms.2 h7
    obtain ⟨A, hA⟩ := Int.eq_ofNat_of_zero_le (show 0 ≤ s.a by omega)
    obtain ⟨B, hB⟩ := Int.eq_ofNat_of_zero_le (show 0 ≤ s.b by omega)
    have w2 : IntKind.i64.wrap (((f + 1 : Nat) : Int) + s.a) = ((f + 1 + A : Nat) : Int) := by rw [wrap_in (by omega)]; omega
    have w3 : IntKind.i64.wrap (((f + 1 + A : Nat) : Int) + s.b) = ((f + 1 + A + B : Nat) : Int) := by rw [wrap_in (by omega)]; omega
    by_cases hf : s.a + s.b > (r.length : Int)
    · have hf' : ((f + 1 + A + B : Nat) : Int) > (t : Int) := by omega
      have e : (D.tuple [.int .i64 (wellW (s :: r)).1, .bool (wellW (s :: r)).2]) = .tuple [.int .i64 0, .bool false] := by rw [wellW, if_neg (by omega), if_neg (by omega), if_pos hf]
      rw [e]
      simp (maxSteps := 2000000) -implicitDefEqProofs only [zz, ↓reduceIte, e7, e4, w2, w3, hf']
    have hf' : ¬ ((f + 1 + A + B : Nat) : Int) > (t : Int) := by omega
    have ea : r.take s.a.toNat = (l.take (f + 1 + A)).drop (f + 1) := by
      rw [hr, hA, Int.toNat_natCast, List.take_drop, List.take_take, Nat.min_eq_left (by omega)]
    have eb : (r.drop s.a.toNat).take s.b.toNat = (l.take (f + 1 + A + B)).drop (f + 1 + A) := by
      rw [hr, hA, hB, Int.toNat_natCast, Int.toNat_natCast, List.drop_drop, List.take_drop, List.take_take, Nat.min_eq_left (by omega)]
    have ec : r.drop (s.a + s.b).toNat = (l.take t).drop (f + 1 + A + B) := by
      rw [hr, List.drop_drop]; congr 1; omega
    simp (maxSteps := 2000000) -implicitDefEqProofs only [zz, ↓reduceIte, e7, e4, w2, w3, hf']
    refine acall_flat (by first | rfl | (simp only [xports, xport, hget]; rfl)) (ih l (f + 1) (f + 1 + A) (by omega) (by omega) (by omega) hl hm) rfl ?_
    try simp (maxSteps := 2000000) -implicitDefEqProofs only [zz, evop, ev, tget, tput, ok, V.isUndef, Ch.on, calleeOf, withArgs, ↓reduceIte, reduceCtorEq, Nat.reduceLT, Nat.reduceEqDiff]
    refine acall_flat (by first | rfl | (simp only [xports, xport, hget]; rfl)) (ih l (f + 1 + A) (f + 1 + A + B) (by omega) (by omega) (by omega) hl hm) rfl ?_
    try simp (maxSteps := 2000000) -implicitDefEqProofs only [zz, evop, ev, tget, tput, ok, V.isUndef, Ch.on, calleeOf, withArgs, ↓reduceIte, reduceCtorEq, Nat.reduceLT, Nat.reduceEqDiff]
    refine acall_flat (by first | rfl | (simp only [xports, xport, hget]; rfl)) (ih l (f + 1 + A + B) t (by omega) (by omega) (by omega) hl hm) rfl ?_
    try simp (maxSteps := 2000000) -implicitDefEqProofs only [zz, evop, ev, ofVal, tget, tput, ok, V.isUndef, intBin, guardOf, Ch.on, xport, xports, resOf, resV, resVs, ↓reduceIte, Nat.reduceLT, Nat.reduceEqDiff, nilTest]
    have hwf : wellW (s :: r) = (max (max (wellW ((l.take t).drop (f + 1 + A + B))).1 (1 + (wellW ((l.take (f + 1 + A)).drop (f + 1))).1)) (1 + (wellW ((l.take (f + 1 + A + B)).drop (f + 1 + A))).1),
      (wellW ((l.take (f + 1 + A)).drop (f + 1))).2 && (wellW ((l.take (f + 1 + A + B)).drop (f + 1 + A))).2 && (wellW ((l.take t).drop (f + 1 + A + B))).2) := by
      rw [wellW, if_neg (by omega), if_neg (by omega), if_neg hf, ea, eb, ec]
    have mm : ∀ (p q : Nat), ∀ x ∈ (l.take p).drop q, mayS x = true := fun p q x hx => hm x (List.mem_of_mem_take (List.mem_of_mem_drop hx))
    have ra := wellW_rng _ _ (Nat.le_refl _) (mm (f + 1 + A) (f + 1))
    have rb := wellW_rng _ _ (Nat.le_refl _) (mm (f + 1 + A + B) (f + 1 + A))
    have rc := wellW_rng _ _ (Nat.le_refl _) (mm t (f + 1 + A + B))
    generalize wellW ((l.take (f + 1 + A)).drop (f + 1)) = X at *
    generalize wellW ((l.take (f + 1 + A + B)).drop (f + 1 + A)) = Y at *
    generalize wellW ((l.take t).drop (f + 1 + A + B)) = Z at *
    obtain ⟨xa, xb⟩ := X
    obtain ⟨ya, yb⟩ := Y
    obtain ⟨za, zb⟩ := Z
    simp only at hwf ra rb rc
    simp only [List.length_drop, List.length_take] at ra rb rc
    have w4 : IntKind.i64.wrap (1 + xa) = 1 + xa := by rw [wrap_in (by omega)]
    have w5 : IntKind.i64.wrap (1 + ya) = 1 + ya := by rw [wrap_in (by omega)]
    cases xb <;> cases yb <;> simp (maxSteps := 2000000) -implicitDefEqProofs only [zz, ↓reduceIte, hwf, w4, w5]
    all_goals
      have em : (if (if za < 1 + xa then 1 + xa else za) < 1 + ya then 1 + ya else if za < 1 + xa then 1 + xa else za) = max (max za (1 + xa)) (1 + ya) := by (repeat' split) <;> omega
      rw [em]

theorem c_r08_Check (c : List St) (hl : c.length ≤ 1000000) (ht : ∀ s ∈ c, s.t.length ≤ 1000000) : CSpec Tryz.prog 56 [.vec (c.map dS)] (.int .i64 (codeC c)) := by
  refine CSpec.of_awp envOf_ok hmix Tryz.func56 rfl (fun args w => Tryz.call56 args w) (by simp [Tryz.f56]) ?_
  simp only [Tryz.f56]
  simp (maxSteps := 2000000) -implicitDefEqProofs only [zz, zE, evop, ev, ofVal, tget, tput, ok, V.isUndef, intBin, initT, Ch.on, told, xport, sliceOf, lenOf, resOf, resV, resVs, ↓reduceIte, reduceCtorEq, Nat.reduceLT, nilTest]
  by_cases h1 : ((c.length : Int) > 24)
  · have e : codeC c = 1 := by unfold codeC; rw [if_pos (.inl (by omega))]
    rw [e]
    simp (maxSteps := 2000000) -implicitDefEqProofs only [↓reduceIte, h1]
  simp (maxSteps := 2000000) -implicitDefEqProofs only [zz, ↓reduceIte, h1]
  refine wloop_ind (σ := Nat) (fun i => c.length - i) (fun i => [(3, .d (.int .i64 i)), (0, .d (.vec (c.map dS)))]) (fun _ => []) (fun i => i ≤ c.length ∧ ∀ j < i, ∀ s, c[j]? = some s → mayS s = true) 0 ⟨Nat.zero_le _, fun j hj => by omega⟩ (Weak.sub (by simp [tget])) ?_
  rintro i ⟨hi, hb⟩
  rcases Nat.lt_or_ge i c.length with hlt | hge
  · have hx : c[i]? = some c[i] := List.getElem?_eq_getElem hlt
    have h' : ((i : Int) < (c.length : Int)) := by omega
    have hw : IntKind.i64.wrap ((i : Int) + 1) = ((i + 1 : Nat) : Int) := by rw [wrap_in (by omega)]; omega
    simp (maxSteps := 2000000) -implicitDefEqProofs only [zz, zE, evop, ev, tget, tput, ok, V.isUndef, intBin, Ch.on, calleeOf, withArgs, told, D.cells, loadD, sliceOf, lenOf, ↓reduceIte, reduceCtorEq, Nat.reduceLT, Nat.reduceEqDiff, Nat.reduceAdd, Nat.reduceLeDiff, nilTest, dS, h', List.getElem?_map, hx, Option.map_some, Int.natCast_nonneg]
    refine acall_flat (by first | rfl | (simp only [xports, xport, hget]; rfl)) (c_r08_one c[i] (ht _ (List.getElem_mem hlt))) rfl ?_
    try simp (maxSteps := 2000000) -implicitDefEqProofs only [zz, evop, ev, ofVal, tget, tput, ok, V.isUndef, intBin, Ch.on, told, xport, resOf, resV, resVs, ↓reduceIte, Nat.reduceLT, Nat.reduceEqDiff, nilTest]
    cases hm : mayS c[i] with
    | false =>
      have e : codeC c = 1 := by unfold codeC; rw [if_pos (.inr (List.any_eq_true.2 ⟨_, List.getElem_mem hlt, by simp [hm]⟩))]
      rw [e]
      simp (maxSteps := 2000000) -implicitDefEqProofs only [zz, ↓reduceIte]
    | true =>
      simp (maxSteps := 2000000) -implicitDefEqProofs only [zz, ↓reduceIte, hw]
      refine ⟨i + 1, ⟨hlt, fun j hj s hs => ?_⟩, by omega, Weak.sub (by simp [tget])⟩
      by_cases ej : j = i
      · subst ej; rw [hx] at hs; cases hs; exact hm
      · exact hb j (by omega) s hs
  · have h' : ¬ ((i : Int) < (c.length : Int)) := by omega
    have hm : ∀ s ∈ c, mayS s = true := fun s hs => by
      obtain ⟨j, hj, rfl⟩ := List.getElem_of_mem hs
      exact hb j (by omega) _ (List.getElem?_eq_getElem hj)
    have hw := wellW_rng _ c (Nat.le_refl _) hm
    have e0 : codeC c = if (wellW c).2 = false then 2 else if (wellW c).1 > 6 then 5 else 0 := by
      unfold codeC; rw [if_neg]; rintro (h | h)
      · omega
      · obtain ⟨s, hs, hn⟩ := List.any_eq_true.1 h
        rw [hm s hs] at hn; simp at hn
    have hwell : CSpec Tryz.prog 107 [.vec (c.map dS), .int .i64 0, .int .i64 c.length] (D.tuple [.int .i64 (wellW c).1, .bool (wellW c).2]) := by
      have := c_r08_well _ c 0 c.length (Nat.le_refl _) (Nat.zero_le _) (Nat.le_refl _) hl hm
      rw [List.take_length, List.drop_zero] at this
      exact this
    rw [e0]
    simp (maxSteps := 2000000) -implicitDefEqProofs only [zz, zE, evop, ev, ofVal, tget, tput, ok, V.isUndef, intBin, Ch.on, calleeOf, withArgs, told, sliceOf, lenOf, ↓reduceIte, reduceCtorEq, Nat.reduceLT, Nat.reduceEqDiff, nilTest, h']
    refine acall_flat (by first | rfl | (simp only [xports, xport, hget]; rfl)) (hwell) rfl ?_
    try simp (maxSteps := 2000000) -implicitDefEqProofs only [zz, evop, ev, ofVal, tget, tput, ok, V.isUndef, intBin, Ch.on, told, xport, resOf, resV, resVs, ↓reduceIte, Nat.reduceLT, Nat.reduceEqDiff, nilTest]
    cases h3 : (wellW c).2 with
    | false => simp (maxSteps := 2000000) -implicitDefEqProofs only [zz, ↓reduceIte]
    | true =>
      by_cases h4 : (wellW c).1 > 6 <;> simp (maxSteps := 2000000) -implicitDefEqProofs only [zz, ↓reduceIte, h4]
end Go.Proofs.YtjhfpabldidlgaaGreat.AM

/- The document's try: settle, begin, load, back. -/
set_option linter.all false
set_option maxRecDepth 100000
set_option maxHeartbeats 8000000
namespace Go.Proofs.YtjhfpabldidlgaaGreat.AM
open Go Go.RowKit

theorem setT_pop {t : Ty} {f : Fr} {k : Nat} {n : Int} (hl : t.frames.length = k + 1) (hx : t.frames[k]? = some f) (hm : f.mid = t.pc) : setT n t = setT n (popT t f) := by
  have : (popT t f).frames.length = k := by simp [popT, hl]
  unfold setT
  rw [hl, this, setF, hx]
  simp only
  rw [if_pos hm]

theorem setT_stay {t : Ty} {n : Int} (h : t.frames.length = 0 ∨ ∃ k f, t.frames.length = k + 1 ∧ t.frames[k]? = some f ∧ f.mid ≠ t.pc) : setT n t = doneT n t := by
  unfold setT
  rcases h with h | ⟨k, f, h1, h2, h3⟩
  · rw [h]; rfl
  · rw [h1, setF, h2]
    simp only
    rw [if_neg h3]

theorem c_r11_settle : ∀ (n : Nat) (t : Ty) (c : List St), t.frames.length = n → t.log.1.length ≤ 1000000 → t.log.2.length ≤ 1000000 → n ≤ 1000000 → CSpec Tryz.prog 57 [dT t, .vec (c.map dS)] (dT (setT c.length t)) := by
  intro n
  induction n with
  | zero =>
    intro t c hn h1 h2 h3
    have hfin := setT_stay (t := t) (n := c.length) (.inl hn)
    refine CSpec.of_awp envOf_ok hmix Tryz.func57 rfl (fun args w => Tryz.call57 args w) (by simp [Tryz.f57]) ?_
    simp only [Tryz.f57]
    simp (maxSteps := 2000000) -implicitDefEqProofs only [zz, zE, evop, ev, tget, V.isUndef, initT, V.cells, ↓reduceIte]
    unfold dT tyC
    simp (maxSteps := 2000000) -implicitDefEqProofs only [zz, zE, evop, ev, tget, tput, ok, V.isUndef, Ch.on, hget, hput, structAt, sliceOf, Blk.width, lenOf, ↓reduceIte, reduceCtorEq, Nat.reduceLT, Nat.reduceEqDiff, Nat.reduceAdd, hn]
    refine wdraw_plan [⟨[], true, [], [], false⟩, ⟨[0], true, [], [], false⟩, ⟨[0, 1], true, [], [], false⟩, ⟨[0, 1, 2], false, [14, 15, 19, 20], [], false⟩, ⟨[0, 1, 2, 3], false, [14, 15, 19, 20], [], false⟩, ⟨[0, 1, 2], false, [12, 13, 19, 20], [3, 4], false⟩, ⟨[0, 1, 2, 5], false, [12, 13, 19, 20], [3, 4], false⟩, ⟨[0, 1, 2, 3, 4, 5, 6], false, [19, 20], [], false⟩, ⟨[0, 1, 2, 3, 4, 5, 6, 7], false, [19, 20], [], false⟩, ⟨[0, 1, 2, 3, 4, 5, 6, 7, 8], false, [19, 20], [], false⟩, ⟨[0, 1, 2], false, [12, 13, 14, 15, 16, 17, 18], [3, 4, 5, 6, 7, 8, 9], false⟩, ⟨[0, 1, 2, 10], false, [12, 13, 14, 15, 16, 17, 18], [3, 4, 5, 6, 7, 8, 9], false⟩, ⟨[0, 1, 2, 3, 4, 5, 6, 7, 8, 9, 10, 11], false, [], [], false⟩, ⟨[0, 1, 2, 3, 4, 5, 6, 7, 8, 9, 10, 11, 12], true, [], [], false⟩] (by decide) ?_
    simp (maxSteps := 2000000) -implicitDefEqProofs only [zz, zE, evop, ev, ofVal, tget, tput, ok, V.isUndef, intBin, guardOf, Ch.on, told, xport, xports, hget, hput, V.cells, V.one, structAt, sliceOf, Blk.width, lenOf, splice, resOf, resV, resVs, ↓reduceIte, reduceCtorEq, Nat.reduceLT, Nat.reduceEqDiff, Nat.reduceAdd, Nat.reduceSub, Nat.reduceLeDiff, nilTest, Int.lt_irrefl]
    by_cases hd : t.pc = (c.length : Int)
    · have e : (t.pc == (c.length : Int)) = true := by simpa using hd
      rw [hfin, doneT, if_pos hd]
      simp (maxSteps := 2000000) -implicitDefEqProofs only [↓reduceIte, e]
    · have e : (t.pc == (c.length : Int)) = false := by simpa using hd
      rw [hfin, doneT, if_neg hd]
      simp (maxSteps := 2000000) -implicitDefEqProofs only [zz, ↓reduceIte, e]
  | succ k ih =>
    intro t c hn h1 h2 h3
    obtain ⟨f, hx⟩ : ∃ f, t.frames[k]? = some f := ⟨_, List.getElem?_eq_getElem (by omega)⟩
    have hpos : (((k + 1 : Nat) : Int) > 0) := by omega
    have hwk : IntKind.i64.wrap (((k + 1 : Nat) : Int) - 1) = (k : Int) := by rw [wrap_in (by omega)]; omega
    refine CSpec.of_awp envOf_ok hmix Tryz.func57 rfl (fun args w => Tryz.call57 args w) (by simp [Tryz.f57]) ?_
    simp only [Tryz.f57]
    simp (maxSteps := 2000000) -implicitDefEqProofs only [zz, zE, evop, ev, tget, V.isUndef, initT, V.cells, ↓reduceIte]
    unfold dT tyC
    simp (maxSteps := 2000000) -implicitDefEqProofs only [zz, zE, evop, ev, tget, tput, ok, V.isUndef, Ch.on, hget, hput, structAt, sliceOf, Blk.width, lenOf, ↓reduceIte, reduceCtorEq, Nat.reduceLT, Nat.reduceEqDiff, Nat.reduceAdd, hn]
    refine wdraw_plan [⟨[], true, [], [], false⟩, ⟨[0], true, [], [], false⟩, ⟨[0, 1], true, [], [], false⟩, ⟨[0, 1, 2], false, [14, 15, 19, 20], [], false⟩, ⟨[0, 1, 2, 3], false, [14, 15, 19, 20], [], false⟩, ⟨[0, 1, 2], false, [12, 13, 19, 20], [3, 4], false⟩, ⟨[0, 1, 2, 5], false, [12, 13, 19, 20], [3, 4], false⟩, ⟨[0, 1, 2, 3, 4, 5, 6], false, [19, 20], [], false⟩, ⟨[0, 1, 2, 3, 4, 5, 6, 7], false, [19, 20], [], false⟩, ⟨[0, 1, 2, 3, 4, 5, 6, 7, 8], false, [19, 20], [], false⟩, ⟨[0, 1, 2], false, [12, 13, 14, 15, 16, 17, 18], [3, 4, 5, 6, 7, 8, 9], false⟩, ⟨[0, 1, 2, 10], false, [12, 13, 14, 15, 16, 17, 18], [3, 4, 5, 6, 7, 8, 9], false⟩, ⟨[0, 1, 2, 3, 4, 5, 6, 7, 8, 9, 10, 11], false, [], [], false⟩, ⟨[0, 1, 2, 3, 4, 5, 6, 7, 8, 9, 10, 11, 12], true, [], [], false⟩] (by decide) ?_
    simp (maxSteps := 2000000) -implicitDefEqProofs only [zz, zE, evop, ev, ofVal, tget, tput, ok, V.isUndef, intBin, guardOf, Ch.on, calleeOf, withArgs, told, xport, xports, hget, hput, V.cells, D.cells, V.isAgg, V.one, loadD, structAt, sliceOf, bound, Blk.width, lenOf, splice, resOf, resV, resVs, ↓reduceIte, reduceCtorEq, Nat.reduceLT, Nat.reduceEqDiff, Nat.reduceAdd, Nat.reduceSub, Nat.reduceLeDiff, nilTest, dFr, hpos, hwk, List.getElem?_map, hx, Option.map_some, Int.natCast_nonneg]
    by_cases hm : f.mid = t.pc
    · have e : (f.mid == t.pc) = true := by simpa using hm
      have hdl : t.frames.dropLast = t.frames.take k := by rw [List.dropLast_eq_take, hn]; rfl
      have er : List.take ((k : Int) - 0).toNat (t.frames.map dFr) = t.frames.dropLast.map dFr := by
        rw [hdl, List.map_take]; simp
      obtain ⟨q1, q2⟩ := logKeep_lens t.log
      have hk := c_r06_Back t.log true h1 h2
      rw [if_pos rfl] at hk
      unfold dLE at hk
      have hi := ih (popT t f) c (by simp [popT, hn]) (by simp only [popT]; omega) (by simp only [popT]; omega) (by omega)
      rw [← setT_pop hn hx hm] at hi
      unfold dT tyC at hi
      generalize setT c.length t = u at hi
      simp (maxSteps := 2000000) -implicitDefEqProofs only [↓reduceIte, e, er]
      refine ⟨⟨Int.le_refl _, by omega, okCells_Fr _⟩, ?_⟩
      refine acall_ice (by first | rfl | (simp only [xports, xport, hget]; rfl)) (hk) ?_
      try simp (maxSteps := 2000000) -implicitDefEqProofs only [zz, zE, evop, ev, tget, tput, ok, V.isUndef, Ch.on, calleeOf, withArgs, tids, tidss, hget, hput, freeze, V.cells, V.one, structAt, Blk.width, splice, ↓reduceIte, reduceCtorEq, Nat.reduceLT, Nat.reduceEqDiff, Nat.reduceAdd, Nat.reduceLeDiff, dLg]
      refine acall_ice (by first | rfl | (simp only [xports, xport, hget]; rfl)) (hi) ?_
      try simp (maxSteps := 2000000) -implicitDefEqProofs only [zz, zE, evop, ev, tget, tput, Ch.on, xport, xports, tids, tidss, hget, hput, freeze, V.cells, V.one, splice, resOf, resV, resVs, ↓reduceIte, Nat.reduceLT, Nat.reduceEqDiff, Nat.reduceAdd, Nat.reduceLeDiff]
    · have e : (f.mid == t.pc) = false := by simpa using hm
      have hfin := setT_stay (t := t) (n := c.length) (.inr ⟨k, f, hn, hx, hm⟩)
      simp (maxSteps := 2000000) -implicitDefEqProofs only [zz, ↓reduceIte, e]
      by_cases hd : t.pc = (c.length : Int)
      · have e : (t.pc == (c.length : Int)) = true := by simpa using hd
        rw [hfin, doneT, if_pos hd]
        simp (maxSteps := 2000000) -implicitDefEqProofs only [↓reduceIte, e]
      · have e : (t.pc == (c.length : Int)) = false := by simpa using hd
        rw [hfin, doneT, if_neg hd]
        simp (maxSteps := 2000000) -implicitDefEqProofs only [zz, ↓reduceIte, e]

theorem c_r11_Begin (c : List St) (who snap : Int) (hl : c.length ≤ 1000000) (ht : ∀ s ∈ c, s.t.length ≤ 1000000) : CSpec Tryz.prog 16 [.vec (c.map dS), .int .i64 who, .int .i64 snap] (.tuple [dT (begT c who snap), .bool (mayB c who snap)]) := by
  have bad : mayB c who snap = false → begT c who snap = zeroT := fun h => by simp [begT, h]
  refine CSpec.of_awp envOf_ok hmix Tryz.func16 rfl (fun args w => Tryz.call16 args w) (by simp [Tryz.f16]) ?_
  simp only [Tryz.f16]
  simp (maxSteps := 2000000) -implicitDefEqProofs only [zz, zE, evop, ev, ofVal, tget, tput, ok, V.isUndef, initT, Ch.on, calleeOf, withArgs, hput, ↓reduceIte, reduceCtorEq, Nat.reduceLT, Nat.reduceEqDiff, Nat.reduceAdd]
  refine acall_flat (by first | rfl | (simp only [xports, xport, hget]; rfl)) (c_r03_Who who) rfl ?_
  try simp (maxSteps := 2000000) -implicitDefEqProofs only [zz, zE, evop, ev, ofVal, tget, tput, ok, V.isUndef, guardOf, Ch.on, calleeOf, withArgs, told, xport, xports, hget, hput, V.cells, V.one, partsV, splice, resOf, resV, resVs, ↓reduceIte, reduceCtorEq, Nat.reduceLT, Nat.reduceEqDiff, Nat.reduceAdd, Nat.reduceLeDiff]
  cases hw : (decide (1 ≤ who) && decide (who ≤ 8)) with
  | false =>
    have hB : mayB c who snap = false := by simp [mayB, Bool.and_assoc] ; simp only [Bool.and_eq_false_iff, decide_eq_false_iff_not] at hw ; omega
    rw [bad hB, hB]
    simp (maxSteps := 2000000) -implicitDefEqProofs only [zz, ↓reduceIte]
    rfl
  | true =>
    simp (maxSteps := 2000000) -implicitDefEqProofs only [zz, ↓reduceIte]
    refine acall_flat (by first | rfl | (simp only [xports, xport, hget]; rfl)) (c_r08_Check c hl ht) rfl ?_
    try simp (maxSteps := 2000000) -implicitDefEqProofs only [zz, zE, evop, ev, ofVal, tget, tput, ok, V.isUndef, intBin, guardOf, Ch.on, calleeOf, withArgs, told, xport, xports, hget, hput, V.cells, D.cells, V.one, V.toD, sliceOf, partsD, partsV, splice, resOf, resV, resVs, ↓reduceIte, reduceCtorEq, Nat.reduceLT, Nat.reduceEqDiff, Nat.reduceAdd, Nat.reduceMul, Nat.reduceLeDiff, nilTest]
    by_cases h1 : codeC c = 0
    case neg =>
      have e1 : (codeC c != 0) = true := by simpa using h1
      have hB : mayB c who snap = false := by simp [mayB, h1]
      rw [bad hB, hB]
      simp (maxSteps := 2000000) -implicitDefEqProofs only [zz, ↓reduceIte, e1]
      rfl
    have e1 : (codeC c != 0) = false := by simpa using h1
    by_cases h2 : snap < 0
    · have hB : mayB c who snap = false := by
        have : ¬ 0 ≤ snap := by omega
        simp [mayB, tickR, this]
      rw [bad hB, hB]
      simp (maxSteps := 2000000) -implicitDefEqProofs only [zz, ↓reduceIte, e1, h2]
      rfl
    by_cases h3 : snap > 2147483647
    · have hB : mayB c who snap = false := by
        have : ¬ snap ≤ 2147483647 := by omega
        simp [mayB, tickR, this]
      rw [bad hB, hB]
      simp (maxSteps := 2000000) -implicitDefEqProofs only [zz, ↓reduceIte, e1, h2, h3]
      rfl
    have hB : mayB c who snap = true := by
      simp only [Bool.and_eq_true, decide_eq_true_eq] at hw
      have a1 : 0 ≤ snap := by omega
      have a2 : snap ≤ 2147483647 := by omega
      simp [mayB, h1, hw.1, hw.2, tickR, a1, a2]
    have g1 : begT c who snap = setT c.length (newT who snap) := by simp [begT, hB]
    rw [g1, hB]
    have hs : CSpec Tryz.prog 57 [.agg [.int .i64 who, .int .i64 snap, .int .i64 0, .vec [.int .i64 0, .int .i64 0, .int .i64 0, .int .i64 0, .int .i64 0, .int .i64 0, .int .i64 0, .int .i64 0], .vec [], .vec [], .vec [], .vec [], .vec [], .int .i64 0, .int .i64 0], .vec (c.map dS)] (dT (setT c.length (newT who snap))) :=
      c_r11_settle 0 (newT who snap) c rfl (by simp [newT, zeroT]) (by simp [newT, zeroT]) (by omega)
    simp (maxSteps := 2000000) -implicitDefEqProofs only [zz, ↓reduceIte, e1, h2, h3]
    refine acall_ice (by first | rfl | (simp only [xports, xport, hget]; rfl)) (hs) ?_
    try simp (maxSteps := 2000000) -implicitDefEqProofs only [zz, zE, evop, ev, tget, tput, tids, tidss, hget, hput, Blk.ice, freeze, V.cells, splice, ↓reduceIte, Nat.reduceLT, Nat.reduceEqDiff, Nat.reduceAdd, Nat.reduceLeDiff]
    simp (maxSteps := 2000000) -implicitDefEqProofs only [zz, zE, evop, ev, ofVal, tget, tput, ok, V.isUndef, Ch.on, xport, xports, hget, hput, V.one, resOf, resV, resVs, ↓reduceIte, Nat.reduceLT, Nat.reduceEqDiff, Nat.reduceAdd, Nat.reduceLeDiff, dT, tyC]
end Go.Proofs.YtjhfpabldidlgaaGreat.AM

/- The document's try: load, back. -/
set_option linter.all false
set_option maxRecDepth 100000
set_option maxHeartbeats 8000000
namespace Go.Proofs.YtjhfpabldidlgaaGreat.AM
open Go Go.RowKit

theorem heapGet_of {h : List (Bool × Int)} (hh : heapR h = true) (c : Int) : ((heapGet h c).2 = 0 ↔ thereB h c = true) ∧ (thereB h c = true → ∃ k : Nat, c = k ∧ h[k]? = some (true, (heapGet h c).1)) := by
  unfold heapGet
  rw [if_pos hh]
  by_cases ht : thereB h c = true
  · rw [if_pos ht]
    refine ⟨by simp [ht], fun _ => ?_⟩
    obtain ⟨k, v, rfl, hk, hg⟩ := thereB_get ht
    exact ⟨k, rfl, by simp [hg]⟩
  · rw [if_neg ht]
    exact ⟨by simp [ht], fun h => absurd h ht⟩

theorem getL_right {l : Lg} (h : logR l = true) (c : Int) : getL l c = getW l.1 c := by simp [getL, h]

theorem c_r11_load (t : Ty) (h : List (Bool × Int)) (r : List (Int × Int)) (x : St) (hl : h.length ≤ 1000000) (hh : heapR h = true) (htb : tableR r = true) (hreg : t.regs.length = 8) (ha : 0 ≤ x.a ∧ x.a < 8) (hpc : 0 ≤ t.pc ∧ t.pc ≤ 1000000)
    (hrd : readsR t.reads = true) (hrl : t.reads.length < 24) (hlog : logR t.log = true) :
    CSpec Tryz.prog 68 [dT t, dS x, .vec (h.map dC), .vec (r.map dW)] (dT (loadT t x h r)) := by
  have hwp : IntKind.i64.wrap (t.pc + 1) = t.pc + 1 := by rw [wrap_in (by omega)]
  have hlens := logR_len hlog
  obtain ⟨hg0, hgt⟩ := heapGet_of hh x.b
  refine CSpec.of_awp envOf_ok hmix Tryz.func68 rfl (fun args w => Tryz.call68 args w) (by simp [Tryz.f68]) ?_
  simp only [Tryz.f68]
  simp (maxSteps := 2000000) -implicitDefEqProofs only [zz, zE, evop, ev, tget, V.isUndef, initT, V.cells, ↓reduceIte, Nat.reduceAdd, dS]
  unfold dT tyC
  simp (maxSteps := 2000000) -implicitDefEqProofs only [zz, zE, evop, ev, tget, tput, ok, V.isUndef, Ch.on, calleeOf, withArgs, hget, hput, V.cells, structAt, Blk.width, ↓reduceIte, reduceCtorEq, Nat.reduceLT, Nat.reduceEqDiff, Nat.reduceAdd]
  refine acall_flat (by first | rfl | (simp only [xports, xport, hget]; rfl)) (c_r02_Live h x.b hl) rfl ?_
  try simp (maxSteps := 2000000) -implicitDefEqProofs only [zz, zE, evop, ev, ofVal, tget, tput, ok, V.isUndef, Ch.on, calleeOf, withArgs, told, hget, structAt, Blk.width, ↓reduceIte, reduceCtorEq, Nat.reduceLT, Nat.reduceEqDiff, Nat.reduceAdd, Nat.reduceLeDiff]
  cases ht : thereB h x.b with
  | false =>
    have h0 : (heapGet h x.b).2 ≠ 0 := fun e => by rw [hg0.1 e] at ht; cases ht
    have hst : loadT t x h r = endT t 4 x.b := by unfold loadT; rw [if_pos h0]
    rw [hst]
    have hr := c_r11_ended t 4 x.b
    unfold dT tyC at hr
    simp (maxSteps := 2000000) -implicitDefEqProofs only [zz, ↓reduceIte]
    refine acall_ice (by first | rfl | (simp only [xports, xport, hget]; rfl)) (hr) ?_
    try simp (maxSteps := 2000000) -implicitDefEqProofs only [zz, zE, evop, ev, tget, tput, Ch.on, xport, xports, tids, tidss, hget, hput, freeze, V.cells, V.one, splice, resOf, resV, resVs, ↓reduceIte, Nat.reduceLT, Nat.reduceEqDiff, Nat.reduceAdd, Nat.reduceLeDiff]
  | true =>
    have hn := not_not_intro (hg0.2 ht)
    obtain ⟨kb, hkb, hkg⟩ := hgt ht
    have hkg' : h[x.b.toNat]? = some (true, (heapGet h x.b).1) := by rw [hkb] at hkg ⊢; simpa using hkg
    have hb0 : 0 ≤ x.b := by omega
    simp (maxSteps := 2000000) -implicitDefEqProofs only [zz, ↓reduceIte]
    refine acall_flat (by first | rfl | (simp only [xports, xport, hget]; rfl)) (c_r06_Get t.log x.b (by omega)) rfl ?_
    try simp (maxSteps := 2000000) -implicitDefEqProofs only [zz, zE, evop, ev, tget, tput, ok, V.isUndef, Ch.on, calleeOf, withArgs, hget, structAt, Blk.width, ↓reduceIte, reduceCtorEq, Nat.reduceLT, Nat.reduceEqDiff, Nat.reduceAdd]
    refine acall_flat (by first | rfl | (simp only [xports, xport, hget]; rfl)) (c_r05_Find t.reads x.b (by omega)) rfl ?_
    try simp (maxSteps := 2000000) -implicitDefEqProofs only [zz, zE, evop, ev, tget, tput, ok, V.isUndef, Ch.on, hget, D.cells, structAt, Blk.width, ↓reduceIte, reduceCtorEq, Nat.reduceLT, Nat.reduceEqDiff, Nat.reduceAdd]
    simp (maxSteps := 2000000) -implicitDefEqProofs only [zz, zE, evop, ev, ofVal, tget, tput, ok, V.isUndef, intBin, Ch.on, calleeOf, withArgs, told, hget, D.cells, loadD, structAt, sliceOf, Blk.width, lenOf, ↓reduceIte, reduceCtorEq, Nat.reduceLT, Nat.reduceEqDiff, Nat.reduceAdd, nilTest, dC, List.getElem?_map, hkg', Option.map_some, hb0]
    have hwith := fun v => c_r11_with t.regs x.a v (by omega) ha.1
    cases hg2 : (getW t.log.1 x.b).2 with
    | true =>
      have hst : loadT t x h r = putT t x.a (getW t.log.1 x.b).1 := by unfold loadT; rw [if_neg hn, getL_right hlog, if_pos hg2]
      rw [hst]
      simp (maxSteps := 2000000) -implicitDefEqProofs only [↓reduceIte]
      refine acall_ice (by first | rfl | (simp only [xports, xport, hget]; rfl)) (hwith _) ?_
      try simp (maxSteps := 2000000) -implicitDefEqProofs only [zz, zE, evop, ev, ofVal, tget, tput, ok, V.isUndef, intBin, Ch.on, xport, xports, tids, tidss, hget, hput, freeze, V.cells, V.one, structAt, Blk.width, splice, resOf, resV, resVs, ↓reduceIte, reduceCtorEq, Nat.reduceLT, Nat.reduceEqDiff, Nat.reduceAdd, Nat.reduceLeDiff, nilTest]
      simp (maxSteps := 2000000) -implicitDefEqProofs only [hwp]
      rfl
    | false =>
      have hng : ¬ (getW t.log.1 x.b).2 = true := by rw [hg2]; decide
      rcases placeR_cases t.reads x.b with ⟨p1, p2⟩ | ⟨j, y, p1, p2, p3, p4, _⟩
      · have hneg : ((-1 : Int) ≥ 0) = False := by simp
        rw [p1]
        obtain ⟨y1, y2, y3, y4, y5, y6, y7⟩ := recR_in htb hb0
        have hrx : r[(x.b.tmod r.length).toNat]? = some (recR r x.b) := by
          unfold recR
          rw [List.getElem?_eq_getElem (by omega)]
          rfl
        have hrne : (r.length : Int) ≠ 0 := by omega
        simp (maxSteps := 2000000) -implicitDefEqProofs only [zz, zE, evop, ev, ofVal, tget, tput, ok, V.isUndef, intBin, guardOf, Ch.on, calleeOf, withArgs, told, hget, hput, V.cells, D.cells, V.one, V.clo, clos, V.toD, loadD, structAt, sliceOf, partsD, partsV, Blk.width, elems, splice, ↓reduceIte, reduceCtorEq, Nat.reduceLT, Nat.reduceEqDiff, Nat.reduceAdd, Nat.reduceMul, Nat.reduceLeDiff, Int.reduceNeg, nilTest, dW, hneg, hrx, Option.map_some]
        refine ⟨hrne, y6, ?_⟩
        by_cases ho : (recR r x.b).2 > 0
        case pos =>
          have hst : loadT t x h r = endT t 5 0 := by unfold loadT; rw [if_neg hn, getL_right hlog, if_neg hng, p2]; simp only; rw [if_pos (.inl (by omega))]
          rw [hst]
          have hr := c_r11_ended t 5 0
          unfold dT tyC at hr
          simp (maxSteps := 2000000) -implicitDefEqProofs only [zz, ↓reduceIte, Int.reduceNeg, ho]
          refine acall_ice (by first | rfl | (simp only [xports, xport, hget]; rfl)) (hr) ?_
          try simp (maxSteps := 2000000) -implicitDefEqProofs only [zz, zE, evop, ev, tget, tput, Ch.on, xport, xports, tids, tidss, hget, hput, freeze, V.cells, V.one, splice, resOf, resV, resVs, ↓reduceIte, Nat.reduceLT, Nat.reduceEqDiff, Nat.reduceAdd, Nat.reduceLeDiff, Int.reduceNeg]
        by_cases hv : (recR r x.b).1 > t.snap
        case pos =>
          have hst : loadT t x h r = endT t 5 0 := by unfold loadT; rw [if_neg hn, getL_right hlog, if_neg hng, p2]; simp only; rw [if_pos (.inr hv)]
          rw [hst]
          have hr := c_r11_ended t 5 0
          unfold dT tyC at hr
          simp (maxSteps := 2000000) -implicitDefEqProofs only [zz, ↓reduceIte, Int.reduceNeg, ho, hv]
          refine acall_ice (by first | rfl | (simp only [xports, xport, hget]; rfl)) (hr) ?_
          try simp (maxSteps := 2000000) -implicitDefEqProofs only [zz, zE, evop, ev, tget, tput, Ch.on, xport, xports, tids, tidss, hget, hput, freeze, V.cells, V.one, splice, resOf, resV, resVs, ↓reduceIte, Nat.reduceLT, Nat.reduceEqDiff, Nat.reduceAdd, Nat.reduceLeDiff, Int.reduceNeg]
        have hst : loadT t x h r = putT { t with reads := t.reads ++ [(x.b, (recR r x.b).1, (heapGet h x.b).1)] } x.a (heapGet h x.b).1 := by
          unfold loadT; rw [if_neg hn, getL_right hlog, if_neg hng, p2]; simp only; rw [if_neg (by omega)]
        rw [hst]
        simp (maxSteps := 2000000) -implicitDefEqProofs only [zz, ↓reduceIte, Int.reduceNeg, ho, hv]
        refine ⟨⟨by omega, okEl_Rd _⟩, ⟨by omega, okEl_Rd [(x.b, (recR r x.b).1, (heapGet h x.b).1)]⟩, ?_⟩
        refine acall_ice (by first | rfl | (simp only [xports, xport, hget]; rfl)) (hwith _) ?_
        try simp (maxSteps := 2000000) -implicitDefEqProofs only [zz, zE, evop, ev, ofVal, tget, tput, ok, V.isUndef, intBin, Ch.on, xport, xports, tids, tidss, hget, hput, freeze, V.cells, V.one, structAt, Blk.width, splice, resOf, resV, resVs, ↓reduceIte, reduceCtorEq, Nat.reduceLT, Nat.reduceEqDiff, Nat.reduceAdd, Nat.reduceLeDiff, Int.reduceNeg, nilTest]
        simp (maxSteps := 2000000) -implicitDefEqProofs only [hwp]
        have ht1 : List.take t.reads.length (t.reads.map dRd) = t.reads.map dRd := by rw [List.take_of_length_le]; simp
        rw [ht1, List.take_of_length_le (by simp)]
        simp [putT, dRd]
      · have hpos : ((j : Int) ≥ 0) := by omega
        have hst : loadT t x h r = putT t x.a y.2.2 := by unfold loadT; rw [if_neg hn, getL_right hlog, if_neg hng, p4]
        rw [hst, p1]
        simp (maxSteps := 2000000) -implicitDefEqProofs only [zz, zE, evop, ev, tget, tput, ok, V.isUndef, Ch.on, calleeOf, withArgs, hget, D.cells, loadD, structAt, Blk.width, ↓reduceIte, reduceCtorEq, Nat.reduceLT, Nat.reduceEqDiff, Nat.reduceAdd, dRd, hpos, p2, Option.map_some]
        refine acall_ice (by first | rfl | (simp only [xports, xport, hget]; rfl)) (hwith _) ?_
        try simp (maxSteps := 2000000) -implicitDefEqProofs only [zz, zE, evop, ev, ofVal, tget, tput, ok, V.isUndef, intBin, Ch.on, xport, xports, tids, tidss, hget, hput, freeze, V.cells, V.one, structAt, Blk.width, splice, resOf, resV, resVs, ↓reduceIte, reduceCtorEq, Nat.reduceLT, Nat.reduceEqDiff, Nat.reduceAdd, Nat.reduceLeDiff, nilTest]
        simp (maxSteps := 2000000) -implicitDefEqProofs only [hwp]
        rfl

theorem c_r11_back (t : Ty) (h1 : t.log.1.length ≤ 1000000) (h2 : t.log.2.length ≤ 1000000) (hf : t.frames.length ≤ 1000000) (hp : t.path.length ≤ 1000000)
    (hfr : ∀ f, t.frames.getLast? = some f → 0 ≤ f.long ∧ f.long ≤ t.path.length) :
    CSpec Tryz.prog 73 [dT t] (dT (agT t)) := by
  rcases Nat.eq_zero_or_pos t.frames.length with h0 | h0
  · have e : ((t.frames.length : Int) == 0) = true := by simp [h0]
    have hnil : t.frames = [] := List.length_eq_zero_iff.1 h0
    have hst : agT t = endT t 2 0 := by unfold agT; rw [hnil]; rfl
    rw [hst]
    have hr := c_r11_ended t 2 0
    refine CSpec.of_awp envOf_ok hmix Tryz.func73 rfl (fun args w => Tryz.call73 args w) (by simp [Tryz.f73]) ?_
    simp only [Tryz.f73]
    simp (maxSteps := 2000000) -implicitDefEqProofs only [zz, zE, evop, ev, tget, V.isUndef, initT, V.cells, ↓reduceIte]
    unfold dT tyC at hr ⊢
    simp (maxSteps := 2000000) -implicitDefEqProofs only [zz, zE, evop, ev, ofVal, tget, tput, ok, V.isUndef, intBin, Ch.on, calleeOf, withArgs, told, hget, hput, structAt, sliceOf, Blk.width, lenOf, ↓reduceIte, reduceCtorEq, Nat.reduceLT, Nat.reduceEqDiff, Nat.reduceAdd, Nat.reduceLeDiff, nilTest, e]
    refine acall_ice (by first | rfl | (simp only [xports, xport, hget]; rfl)) (hr) ?_
    try simp (maxSteps := 2000000) -implicitDefEqProofs only [zz, zE, evop, ev, tget, tput, Ch.on, xport, xports, tids, tidss, hget, hput, freeze, V.cells, V.one, splice, resOf, resV, resVs, ↓reduceIte, Nat.reduceLT, Nat.reduceEqDiff, Nat.reduceAdd, Nat.reduceLeDiff]
  · have e : ((t.frames.length : Int) == 0) = false := by rw [beq_eq_false_iff_ne]; omega
    obtain ⟨f, hx⟩ : ∃ f, t.frames[t.frames.length - 1]? = some f := ⟨_, List.getElem?_eq_getElem (by omega)⟩
    have hgl : t.frames.getLast? = some f := by rw [List.getLast?_eq_getElem?]; exact hx
    obtain ⟨g1, g2⟩ := hfr f hgl
    have hst : agT t = { t with log := (logBack t.log).1, frames := t.frames.dropLast, regs := f.regs, pc := f.mid, path := t.path.take f.long.toNat ++ [2] } := by unfold agT; rw [hgl]
    rw [hst]
    have hwn : IntKind.i64.wrap ((t.frames.length : Int) - 1) = ((t.frames.length - 1 : Nat) : Int) := by rw [wrap_in (by omega)]; omega
    have hb := c_r06_Back t.log false h1 h2
    rw [if_neg (by decide)] at hb
    unfold dLE at hb
    have hdl : t.frames.dropLast = t.frames.take (t.frames.length - 1) := by rw [List.dropLast_eq_take]
    have er : List.take (((t.frames.length - 1 : Nat) : Int) - 0).toNat (t.frames.map dFr) = t.frames.dropLast.map dFr := by
      rw [hdl, List.map_take]; simp
    have ep : List.take (f.long - 0).toNat (t.path.map dI) = (t.path.take f.long.toNat).map dI := by
      rw [List.map_take]; simp
    refine CSpec.of_awp envOf_ok hmix Tryz.func73 rfl (fun args w => Tryz.call73 args w) (by simp [Tryz.f73]) ?_
    simp only [Tryz.f73]
    simp (maxSteps := 2000000) -implicitDefEqProofs only [zz, zE, evop, ev, tget, V.isUndef, initT, V.cells, ↓reduceIte]
    unfold dT tyC
    simp (maxSteps := 2000000) -implicitDefEqProofs only [zz, zE, evop, ev, ofVal, tget, tput, ok, V.isUndef, intBin, Ch.on, calleeOf, withArgs, told, hget, hput, V.cells, D.cells, V.one, loadD, structAt, sliceOf, Blk.width, lenOf, splice, ↓reduceIte, reduceCtorEq, Nat.reduceLT, Nat.reduceEqDiff, Nat.reduceAdd, Nat.reduceLeDiff, nilTest, dFr, e, hwn, List.getElem?_map, hx, Option.map_some, Int.natCast_nonneg]
    refine acall_ice (by first | rfl | (simp only [xports, xport, hget]; rfl)) (hb) ?_
    try simp (maxSteps := 2000000) -implicitDefEqProofs only [zz, zE, evop, ev, ofVal, tget, tput, ok, V.isUndef, intBin, Ch.on, xport, xports, tids, tidss, hget, hput, freeze, V.cells, D.cells, V.one, V.toD, structAt, sliceOf, partsD, bound, Blk.width, elems, lenOf, splice, resOf, resV, resVs, ↓reduceIte, reduceCtorEq, Nat.reduceLT, Nat.reduceEqDiff, Nat.reduceAdd, Nat.reduceMul, Nat.reduceLeDiff, nilTest, dLg]
    simp (maxSteps := 2000000) -implicitDefEqProofs only [zz, hwn, er, Int.natCast_nonneg]
    refine ⟨⟨Int.le_refl _, by omega, okCells_Fr _⟩, ?_⟩
    simp (maxSteps := 2000000) -implicitDefEqProofs only [zz, ep]
    refine ⟨⟨Int.le_refl _, g1, g2, by intro e he; obtain ⟨w, _, rfl⟩ := List.mem_map.1 he; rfl⟩, ⟨by rw [List.length_take]; omega, okEl_I _⟩, ⟨by rw [List.length_take]; omega, okEl_I [2]⟩, ?_⟩
    have ht : List.take (List.take f.long.toNat t.path).length (List.map dI (List.take f.long.toNat t.path)) = List.map dI (List.take f.long.toNat t.path) := by rw [List.take_of_length_le]; simp
    rw [ht, List.take_of_length_le (by simp)]
    simp [dI]
end Go.Proofs.YtjhfpabldidlgaaGreat.AM

/- The document's try: a step. -/
set_option linter.all false
set_option maxRecDepth 100000
set_option maxHeartbeats 8000000
namespace Go.Proofs.YtjhfpabldidlgaaGreat.AM
open Go Go.RowKit

theorem c_r11_Step (c : List St) (t : Ty) (h : List (Bool × Int)) (r : List (Int × Int)) (hc : CodeOk c) (hi : InvS c t) (hl : h.length ≤ 1000000) (hrl : r.length ≤ 1000000) (htl : ∀ s ∈ c, s.t.length ≤ 1000000) :
    CSpec Tryz.prog 21 [dT t, .vec (c.map dS), .vec (h.map dC), .vec (r.map dW)] (.tuple [dT (stepT t c h r), .bool (mayT t h r)]) := by
  have bad : mayT t h r = false → stepT t c h r = t := fun e => by simp [stepT, e]
  have hpc0 := hi.pc0
  refine CSpec.of_awp envOf_ok hmix Tryz.func21 rfl (fun args w => Tryz.call21 args w) (by simp [Tryz.f21]) ?_
  simp only [Tryz.f21]
  simp (maxSteps := 2000000) -implicitDefEqProofs only [zz, zE, evop, ev, tget, V.isUndef, initT, V.cells, ↓reduceIte, Nat.reduceAdd]
  unfold dT tyC
  simp (maxSteps := 2000000) -implicitDefEqProofs only [zz, zE, evop, ev, ofVal, tget, tput, ok, V.isUndef, Ch.on, calleeOf, withArgs, hput, ↓reduceIte, reduceCtorEq, Nat.reduceLT, Nat.reduceEqDiff]
  refine acall_flat (by first | rfl | (simp only [xports, xport, hget]; rfl)) (c_r02_Right h hl) rfl ?_
  try simp (maxSteps := 2000000) -implicitDefEqProofs only [zz, evop, ev, tget, tput, ok, V.isUndef, Ch.on, calleeOf, withArgs, ↓reduceIte, reduceCtorEq, Nat.reduceLT, Nat.reduceEqDiff]
  refine acall_flat (by first | rfl | (simp only [xports, xport, hget]; rfl)) (c_r03_Right r hrl) rfl ?_
  try simp (maxSteps := 2000000) -implicitDefEqProofs only [zz, zE, evop, ev, ofVal, tget, tput, ok, V.isUndef, intBin, guardOf, Ch.on, told, xport, xports, hget, hput, V.cells, D.cells, V.one, structAt, Blk.width, splice, resOf, resV, resVs, ↓reduceIte, reduceCtorEq, Nat.reduceLT, Nat.reduceEqDiff, Nat.reduceAdd, Nat.reduceLeDiff, nilTest]
  cases hh : heapR h with
  | false =>
    have hm : mayT t h r = false := by simp [mayT, hh]
    rw [bad hm, hm]
    simp (maxSteps := 2000000) -implicitDefEqProofs only [zz, ↓reduceIte]
  | true =>
  cases hr : tableR r with
  | false =>
    have hm : mayT t h r = false := by simp [mayT, hr]
    rw [bad hm, hm]
    simp (maxSteps := 2000000) -implicitDefEqProofs only [zz, ↓reduceIte]
  | true =>
  by_cases hk : t.kind = 0
  case neg =>
    have hm : mayT t h r = false := by simp [mayT, hk]
    have ek : (t.kind != 0) = true := by simpa using hk
    rw [bad hm, hm]
    simp (maxSteps := 2000000) -implicitDefEqProofs only [zz, ↓reduceIte, ek]
  have ek : (t.kind != 0) = false := by simpa using hk
  obtain ⟨hlt, hst⟩ := hi.run hk
  have hmay : mayT t h r = true := by simp [mayT, hh, hr, hk]
  have hx : c[t.pc.toNat]? = some (c[t.pc.toNat]'(by omega)) := List.getElem?_eq_getElem (by omega)
  generalize c[t.pc.toNat]'(by omega) = x at hx
  have hg : stepT t c h r = if (doT t x h r).kind ≠ 0 then doT t x h r else setT c.length (doT t x h r) := by unfold stepT; rw [if_pos hmay]; unfold stpT; rw [hx]
  obtain ⟨inv, _, _, _⟩ := hi.doT hc hmay hx
  have hk' := doT_kind (s := x) (h := h) (r := r) hk
  obtain ⟨b1, b2, b3, b4, b5, b6, b7, b8⟩ := inv.lens hc
  have hs := c_r11_settle _ (doT t x h r) c rfl (by omega) (by omega) (by omega)
  obtain ⟨al, atb, areg, apc, ard, arl, a1, a2, af, ap, afr, atl, amay⟩ := stpOk_of hc hi hl htl hmay hx
  have hlog := hi.log
  obtain ⟨g4, g7⟩ := mayS_rng amay
  have hwp : IntKind.i64.wrap (t.pc + 1) = t.pc + 1 := by rw [wrap_in (by omega)]
  obtain ⟨hg0, hgt⟩ := heapGet_of hh x.a
  rw [hg, hmay]
  simp (maxSteps := 2000000) -implicitDefEqProofs only [zz, zE, evop, ev, tget, tput, ok, V.isUndef, Ch.on, calleeOf, withArgs, hget, hput, V.cells, D.cells, V.one, loadD, structAt, Blk.width, splice, ↓reduceIte, reduceCtorEq, Nat.reduceLT, Nat.reduceEqDiff, Nat.reduceAdd, Nat.reduceLeDiff, dS, ek, List.getElem?_map, hx, Option.map_some, hpc0]
  have hev := c_r07_Eval h t.regs x.t hl atl
  refine acall_flat (by first | rfl | (simp only [xports, xport, hget]; rfl)) (hev) rfl ?_
  try simp (maxSteps := 2000000) -implicitDefEqProofs only [zz, zE, evop, ev, ofVal, tget, tput, ok, V.isUndef, intBin, Ch.on, calleeOf, withArgs, told, xport, xports, hget, hput, V.cells, D.cells, V.one, V.clo, clos, V.toD, structAt, sliceOf, partsD, partsV, Blk.width, elems, lenOf, splice, resOf, resV, resVs, ↓reduceIte, reduceCtorEq, Nat.reduceLT, Nat.reduceEqDiff, Nat.reduceAdd, Nat.reduceMul, Nat.reduceLeDiff, nilTest]
  -- what follows a step's own part
  by_cases d1 : x.d = 1
  case pos =>
    have e1 : (x.d == 1) = true := by simpa using d1
    have ha : 0 ≤ x.a ∧ x.a < 8 := by unfold mayS belowI at amay; rw [if_pos d1] at amay; simp at amay; omega
    have hst : doT t x h r = loadT t x h r := by unfold doT; rw [if_pos d1]
    rw [hst] at hs ⊢
    have hld := c_r11_load t h r x hl hh atb areg ha apc ard arl hlog
    unfold dT tyC at hld
    generalize loadT t x h r = v at hs hld
    simp only [dS] at hld
    simp (maxSteps := 2000000) -implicitDefEqProofs only [↓reduceIte, e1]
    refine acall_ice (by first | rfl | (simp only [xports, xport, hget]; rfl)) (hld) ?_
    try simp (maxSteps := 2000000) -implicitDefEqProofs only [zz, zE, evop, ev, ofVal, tget, tput, ok, V.isUndef, intBin, Ch.on, calleeOf, withArgs, told, xport, xports, tids, tidss, hget, hput, freeze, V.cells, V.one, structAt, Blk.width, splice, resOf, resV, resVs, ↓reduceIte, reduceCtorEq, Nat.reduceLT, Nat.reduceEqDiff, Nat.reduceAdd, Nat.reduceLeDiff, nilTest]
    by_cases hz : v.kind = 0
    · have ez : (v.kind != 0) = false := by simpa using hz
      rw [if_neg (not_not_intro hz)]
      unfold dT tyC at hs
      simp (maxSteps := 2000000) -implicitDefEqProofs only [zz, ↓reduceIte, ez]
      refine acall_ice (by first | rfl | (simp only [xports, xport, hget]; rfl)) (hs) ?_
      try simp (maxSteps := 2000000) -implicitDefEqProofs only [zz, zE, evop, ev, ofVal, tget, tput, ok, V.isUndef, Ch.on, xport, xports, tids, tidss, hget, hput, freeze, V.cells, V.one, splice, resOf, resV, resVs, ↓reduceIte, Nat.reduceLT, Nat.reduceEqDiff, Nat.reduceAdd, Nat.reduceLeDiff]
    · have ez : (v.kind != 0) = true := by simpa using hz
      rw [if_pos hz]
      simp (maxSteps := 2000000) -implicitDefEqProofs only [↓reduceIte, ez]
  have e1 : (x.d == 1) = false := by simpa using d1
  by_cases d2 : x.d = 2
  case pos =>
    have e2 : (x.d == 2) = true := by simpa using d2
    have ha : 0 ≤ x.a ∧ x.a < 8 := by unfold mayS belowI at amay; rw [if_neg d1, if_pos d2] at amay; simp at amay; omega
    have hst : doT t x h r = putT t x.a (tellT t h x.t) := by unfold doT; rw [if_neg d1, if_pos d2]
    rw [hst] at hs ⊢
    have hz : ¬ (putT t x.a (tellT t h x.t)).kind ≠ 0 := not_not_intro hk
    rw [if_neg hz]
    have hwith := c_r11_with t.regs x.a (tellT t h x.t) (by omega) ha.1
    unfold tellT at hwith
    generalize hu : setT c.length (putT t x.a (tellT t h x.t)) = u at hs ⊢
    unfold dT tyC putT tellT at hs
    simp (maxSteps := 2000000) -implicitDefEqProofs only [zz, ↓reduceIte, e1, e2]
    refine acall_ice (by first | rfl | (simp only [xports, xport, hget]; rfl)) (hwith) ?_
    try simp (maxSteps := 2000000) -implicitDefEqProofs only [zz, zE, evop, ev, ofVal, tget, tput, ok, V.isUndef, intBin, Ch.on, calleeOf, withArgs, told, xport, xports, tids, tidss, hget, hput, freeze, V.cells, V.one, structAt, Blk.width, splice, resOf, resV, resVs, ↓reduceIte, reduceCtorEq, Nat.reduceLT, Nat.reduceEqDiff, Nat.reduceAdd, Nat.reduceLeDiff, nilTest]
    simp (maxSteps := 2000000) -implicitDefEqProofs only [zz, ↓reduceIte, hwp, ek]
    refine acall_ice (by first | rfl | (simp only [xports, xport, hget]; rfl)) (hs) ?_
    try simp (maxSteps := 2000000) -implicitDefEqProofs only [zz, zE, evop, ev, ofVal, tget, tput, ok, V.isUndef, Ch.on, xport, xports, tids, tidss, hget, hput, freeze, V.cells, V.one, splice, resOf, resV, resVs, ↓reduceIte, Nat.reduceLT, Nat.reduceEqDiff, Nat.reduceAdd, Nat.reduceLeDiff]
  have e2 : (x.d == 2) = false := by simpa using d2
  by_cases d3 : x.d = 3
  case pos =>
    have e3 : (x.d == 3) = true := by simpa using d3
    have hst : doT t x h r = storeT t x h := by unfold doT; rw [if_neg d1, if_neg d2, if_pos d3]
    rw [hst] at hs ⊢
    simp (maxSteps := 2000000) -implicitDefEqProofs only [zz, ↓reduceIte, e1, e2, e3]
    refine acall_flat (by first | rfl | (simp only [xports, xport, hget]; rfl)) (c_r02_Live h x.a hl) rfl ?_
    try simp (maxSteps := 2000000) -implicitDefEqProofs only [zz, zE, evop, ev, ofVal, tget, tput, ok, V.isUndef, Ch.on, calleeOf, withArgs, told, hget, V.cells, structAt, partsV, Blk.width, splice, ↓reduceIte, reduceCtorEq, Nat.reduceLT, Nat.reduceEqDiff, Nat.reduceAdd, Nat.reduceLeDiff]
    cases ht : thereB h x.a with
    | false =>
      have h0 : (heapGet h x.a).2 ≠ 0 := fun e => by rw [hg0.1 e] at ht; cases ht
      have hsx : storeT t x h = endT t 4 x.a := by unfold storeT; rw [if_pos h0]
      have hz : (endT t 4 x.a).kind ≠ 0 := by simp [endT]
      rw [hsx, if_pos hz]
      have hr := c_r11_ended t 4 x.a
      unfold dT tyC at hr
      simp (maxSteps := 2000000) -implicitDefEqProofs only [zz, ↓reduceIte]
      refine acall_ice (by first | rfl | (simp only [xports, xport, hget]; rfl)) (hr) ?_
      try simp (maxSteps := 2000000) -implicitDefEqProofs only [zz, zE, evop, ev, ofVal, tget, tput, ok, V.isUndef, Ch.on, xport, xports, tids, tidss, hget, hput, freeze, V.cells, V.one, splice, resOf, resV, resVs, ↓reduceIte, Nat.reduceLT, Nat.reduceEqDiff, Nat.reduceAdd, Nat.reduceLeDiff]
    | true =>
      have hn := not_not_intro (hg0.2 ht)
      have hsx : storeT t x h = { t with log := (logPut t.log (x.a, tellT t h x.t)).1, pc := t.pc + 1 } := by unfold storeT; rw [if_neg hn]
      rw [hsx] at hs ⊢
      rw [if_neg (not_not_intro hk)]
      have hp := c_r06_Put t.log (x.a, tellT t h x.t) a1 a2
      unfold dLE tellT at hp
      generalize hu : setT c.length { t with log := (logPut t.log (x.a, tellT t h x.t)).1, pc := t.pc + 1 } = u at hs ⊢
      unfold dT tyC tellT at hs
      simp (maxSteps := 2000000) -implicitDefEqProofs only [zz, ↓reduceIte]
      refine acall_ice (by first | rfl | (simp only [xports, xport, hget]; rfl)) (hp) ?_
      try simp (maxSteps := 2000000) -implicitDefEqProofs only [zz, zE, evop, ev, ofVal, tget, tput, ok, V.isUndef, intBin, Ch.on, calleeOf, withArgs, told, xport, xports, tids, tidss, hget, hput, freeze, V.cells, V.one, structAt, Blk.width, splice, resOf, resV, resVs, ↓reduceIte, reduceCtorEq, Nat.reduceLT, Nat.reduceEqDiff, Nat.reduceAdd, Nat.reduceLeDiff, nilTest, dLg]
      simp (maxSteps := 2000000) -implicitDefEqProofs only [zz, ↓reduceIte, hwp, ek]
      refine acall_ice (by first | rfl | (simp only [xports, xport, hget]; rfl)) (hs) ?_
      try simp (maxSteps := 2000000) -implicitDefEqProofs only [zz, zE, evop, ev, ofVal, tget, tput, ok, V.isUndef, Ch.on, xport, xports, tids, tidss, hget, hput, freeze, V.cells, V.one, splice, resOf, resV, resVs, ↓reduceIte, Nat.reduceLT, Nat.reduceEqDiff, Nat.reduceAdd, Nat.reduceLeDiff]
  have e3 : (x.d == 3) = false := by simpa using d3
  by_cases d4 : x.d = 4
  case pos =>
    have e4 : (x.d == 4) = true := by simpa using d4
    have hws : IntKind.i64.wrap (t.pc + 1 + x.a) = t.pc + 1 + x.a := by have := g4 d4; rw [wrap_in (by omega)]
    have hst : doT t x h r = skipT t x h := by unfold doT; rw [if_neg d1, if_neg d2, if_neg d3, if_pos d4]
    rw [hst] at hs ⊢
    by_cases hz : tellT t h x.t = 0
    · have ez : ((evalT h t.regs x.t).1 == 0) = true := by unfold tellT at hz; simpa using hz
      have hsk : skipT t x h = { t with pc := t.pc + 1 + x.a } := by unfold skipT; rw [if_pos hz]
      rw [hsk] at hs ⊢
      rw [if_neg (not_not_intro hk)]
      generalize hu : setT c.length { t with pc := t.pc + 1 + x.a } = u at hs ⊢
      unfold dT tyC at hs
      simp (maxSteps := 2000000) -implicitDefEqProofs only [zz, ↓reduceIte, e1, e2, e3, e4, ez, hwp]
      simp (maxSteps := 2000000) -implicitDefEqProofs only [zz, ↓reduceIte, hws, ek]
      refine acall_ice (by first | rfl | (simp only [xports, xport, hget]; rfl)) (hs) ?_
      try simp (maxSteps := 2000000) -implicitDefEqProofs only [zz, zE, evop, ev, ofVal, tget, tput, ok, V.isUndef, Ch.on, xport, xports, tids, tidss, hget, hput, freeze, V.cells, V.one, splice, resOf, resV, resVs, ↓reduceIte, Nat.reduceLT, Nat.reduceEqDiff, Nat.reduceAdd, Nat.reduceLeDiff]
    · have ez : ((evalT h t.regs x.t).1 == 0) = false := by unfold tellT at hz; simpa using hz
      have hsk : skipT t x h = { t with pc := t.pc + 1 } := by unfold skipT; rw [if_neg hz]
      rw [hsk] at hs ⊢
      rw [if_neg (not_not_intro hk)]
      generalize hu : setT c.length { t with pc := t.pc + 1 } = u at hs ⊢
      unfold dT tyC at hs
      simp (maxSteps := 2000000) -implicitDefEqProofs only [zz, ↓reduceIte, e1, e2, e3, e4, ez, hwp, ek]
      refine acall_ice (by first | rfl | (simp only [xports, xport, hget]; rfl)) (hs) ?_
      try simp (maxSteps := 2000000) -implicitDefEqProofs only [zz, zE, evop, ev, ofVal, tget, tput, ok, V.isUndef, Ch.on, xport, xports, tids, tidss, hget, hput, freeze, V.cells, V.one, splice, resOf, resV, resVs, ↓reduceIte, Nat.reduceLT, Nat.reduceEqDiff, Nat.reduceAdd, Nat.reduceLeDiff]
  have e4 : (x.d == 4) = false := by simpa using d4
  by_cases d5 : x.d = 5
  case pos =>
    have e5 : (x.d == 5) = true := by simpa using d5
    have hst : doT t x h r = agT t := by unfold doT; rw [if_neg d1, if_neg d2, if_neg d3, if_neg d4, if_pos d5]
    rw [hst] at hs ⊢
    have hbk := c_r11_back t a1 a2 af ap afr
    unfold dT tyC at hbk
    generalize agT t = v at hs hbk
    simp (maxSteps := 2000000) -implicitDefEqProofs only [zz, ↓reduceIte, e1, e2, e3, e4, e5]
    refine acall_ice (by first | rfl | (simp only [xports, xport, hget]; rfl)) (hbk) ?_
    try simp (maxSteps := 2000000) -implicitDefEqProofs only [zz, zE, evop, ev, ofVal, tget, tput, ok, V.isUndef, intBin, Ch.on, calleeOf, withArgs, told, xport, xports, tids, tidss, hget, hput, freeze, V.cells, V.one, structAt, Blk.width, splice, resOf, resV, resVs, ↓reduceIte, reduceCtorEq, Nat.reduceLT, Nat.reduceEqDiff, Nat.reduceAdd, Nat.reduceLeDiff, nilTest]
    by_cases hz : v.kind = 0
    · have ez : (v.kind != 0) = false := by simpa using hz
      rw [if_neg (not_not_intro hz)]
      unfold dT tyC at hs
      simp (maxSteps := 2000000) -implicitDefEqProofs only [zz, ↓reduceIte, ez]
      refine acall_ice (by first | rfl | (simp only [xports, xport, hget]; rfl)) (hs) ?_
      try simp (maxSteps := 2000000) -implicitDefEqProofs only [zz, zE, evop, ev, ofVal, tget, tput, ok, V.isUndef, Ch.on, xport, xports, tids, tidss, hget, hput, freeze, V.cells, V.one, splice, resOf, resV, resVs, ↓reduceIte, Nat.reduceLT, Nat.reduceEqDiff, Nat.reduceAdd, Nat.reduceLeDiff]
    · have ez : (v.kind != 0) = true := by simpa using hz
      rw [if_pos hz]
      simp (maxSteps := 2000000) -implicitDefEqProofs only [↓reduceIte, ez]
  have e5 : (x.d == 5) = false := by simpa using d5
  by_cases d6 : x.d = 6
  case pos =>
    have e6 : (x.d == 6) = true := by simpa using d6
    have hst : doT t x h r = endT t 3 x.a := by unfold doT; rw [if_neg d1, if_neg d2, if_neg d3, if_neg d4, if_neg d5, if_pos d6]
    rw [hst]
    have hz : (endT t 3 x.a).kind ≠ 0 := by simp [endT]
    rw [if_pos hz]
    have hr := c_r11_ended t 3 x.a
    unfold dT tyC at hr
    simp (maxSteps := 2000000) -implicitDefEqProofs only [zz, ↓reduceIte, e1, e2, e3, e4, e5, e6]
    refine acall_ice (by first | rfl | (simp only [xports, xport, hget]; rfl)) (hr) ?_
    try simp (maxSteps := 2000000) -implicitDefEqProofs only [zz, zE, evop, ev, ofVal, tget, tput, ok, V.isUndef, Ch.on, xport, xports, tids, tidss, hget, hput, freeze, V.cells, V.one, splice, resOf, resV, resVs, ↓reduceIte, Nat.reduceLT, Nat.reduceEqDiff, Nat.reduceAdd, Nat.reduceLeDiff]
  have e6 : (x.d == 6) = false := by simpa using d6
  have d7 : x.d = 7 := by
    unfold mayS at amay
    rw [if_neg d1, if_neg d2, if_neg d3, if_neg d4, if_neg d5, if_neg d6] at amay
    simp at amay
    omega
  have hst : doT t x h r = eiT t x := by unfold doT; rw [if_neg d1, if_neg d2, if_neg d3, if_neg d4, if_neg d5, if_neg d6]
  rw [hst] at hs ⊢
  have hz : ¬ (eiT t x).kind ≠ 0 := not_not_intro hk
  rw [if_neg hz]
  have hg := g7 d7
  have w2 : IntKind.i64.wrap (t.pc + 1 + x.a) = t.pc + 1 + x.a := by rw [wrap_in (by omega)]
  have w3 : IntKind.i64.wrap (t.pc + 1 + x.a + x.b) = t.pc + 1 + x.a + x.b := by rw [wrap_in (by omega)]
  have hm := c_r06_Mark t.log a1 a2
  unfold dLE at hm
  generalize hu : setT c.length (eiT t x) = u at hs ⊢
  unfold dT tyC eiT at hs
  have ht1 : List.take t.frames.length (t.frames.map dFr) = t.frames.map dFr := by rw [List.take_of_length_le]; simp
  have ht2 : List.take t.path.length (t.path.map dI) = t.path.map dI := by rw [List.take_of_length_le]; simp
  simp (maxSteps := 2000000) -implicitDefEqProofs only [zz, ↓reduceIte, e1, e2, e3, e4, e5, e6, hwp, w2, w3]
  refine ⟨⟨by omega, okEl_Fr _⟩, ⟨by omega, okEl_Fr [⟨t.pc + 1 + x.a, t.pc + 1 + x.a + x.b, t.path.length, t.regs⟩]⟩, ⟨by omega, okEl_I _⟩, ⟨by omega, okEl_I [1]⟩, ?_⟩
  have ef : (t.frames ++ [(⟨t.pc + 1 + x.a, t.pc + 1 + x.a + x.b, t.path.length, t.regs⟩ : Fr)]).map dFr = List.take (t.frames.length + 1) (List.take t.frames.length (t.frames.map dFr) ++ [D.agg [.int .i64 (t.pc + 1 + x.a), .int .i64 (t.pc + 1 + x.a + x.b), .int .i64 t.path.length, .vec (t.regs.map dI)]]) := by
    rw [ht1, List.take_of_length_le (by simp), List.map_append]; rfl
  have ep : (t.path ++ [1]).map dI = List.take (t.path.length + 1) (List.take t.path.length (t.path.map dI) ++ [D.int .i64 1]) := by
    rw [ht2, List.take_of_length_le (by simp), List.map_append]; rfl
  simp only [ef, ep] at hs
  refine acall_ice (by first | rfl | (simp only [xports, xport, hget]; rfl)) (hm) ?_
  try simp (maxSteps := 2000000) -implicitDefEqProofs only [zz, zE, evop, ev, ofVal, tget, tput, ok, V.isUndef, intBin, Ch.on, calleeOf, withArgs, told, xport, xports, tids, tidss, hget, hput, freeze, V.cells, V.one, structAt, Blk.width, splice, resOf, resV, resVs, ↓reduceIte, reduceCtorEq, Nat.reduceLT, Nat.reduceEqDiff, Nat.reduceAdd, Nat.reduceLeDiff, nilTest, dLg]
  simp (maxSteps := 2000000) -implicitDefEqProofs only [zz, ↓reduceIte, hwp, ek]
  refine acall_ice (by first | rfl | (simp only [xports, xport, hget]; rfl)) (hs) ?_
  try simp (maxSteps := 2000000) -implicitDefEqProofs only [zz, zE, evop, ev, ofVal, tget, tput, ok, V.isUndef, Ch.on, xport, xports, tids, tidss, hget, hput, Blk.ice, freeze, V.cells, V.one, splice, resOf, resV, resVs, ↓reduceIte, Nat.reduceLT, Nat.reduceEqDiff, Nat.reduceAdd, Nat.reduceLeDiff]
end Go.Proofs.YtjhfpabldidlgaaGreat.AM
