/- The texts Hk, Fy, Fj, Fk, Fl, Hl, Hm, Ho, Fm, Hp, joined. -/
import Derived.Test.YthpapgbpmkgfeaaJA4

/- Sorting parts: the whole. -/
set_option linter.all false
set_option maxRecDepth 100000
set_option maxHeartbeats 8000000
namespace Go.Proofs.Ythpapgbpmkgfeaa.AM
open Go Go.RowKit

/-- How it stands with a part a..b of a part A..B. -/
structure Stp (c : Int → Int → Int) (zs : List Int) (A B a b : Nat) (ys : List Int) : Prop where
  ps : PS A B zs ys
  lo : A ≤ a
  le : a ≤ b
  hi : b ≤ B
  sb : SB c a b ys
  go : ∀ w, PS a b ys w → SoIn c a b w → SoIn c A B w

theorem Stp.fin {c : Int → Int → Int} {zs ys w : List Int} {A B a b : Nat} (hB : B ≤ zs.length) (I : Stp c zs A B a b ys) (hp : PS a b ys w) (hs : SoIn c a b w) : PS A B zs w ∧ SoIn c A B w :=
  ⟨I.ps.trans (hp.mono I.lo I.hi (by rw [I.ps.len]; exact hB)), I.go w hp hs⟩
/-- The part in another order. -/
theorem Stp.turn {c : Int → Int → Int} {zs ys w : List Int} {A B a b : Nat} (hO : Ord c) (hB : B ≤ zs.length) (I : Stp c zs A B a b ys) (hp : PS a b ys w) : Stp c zs A B a b w :=
  have hl := I.ps.len
  have hi := I.hi
  ⟨I.ps.trans (hp.mono I.lo I.hi (by omega)), I.lo, I.le, I.hi, I.sb.ps hO (by omega) hp (Nat.le_refl _) (Nat.le_refl _) I.le, fun v hv hs => I.go v (hp.trans hv) hs⟩

theorem Stp.left {c : Int → Int → Int} {zs y2 y3 : List Int} {A B a b m : Nat} (hO : Ord c) (hn : zs.Nodup) (hB : B ≤ zs.length) (I : Stp c zs A B a b y2) (ham : a ≤ m) (hmb : m < b)
    (h1 : ∀ x, a ≤ x → x < m → c (y2.getD x 0) (y2.getD m 0) < 0) (h2 : ∀ x, m < x → x < b → ¬ c (y2.getD x 0) (y2.getD m 0) < 0) (p3 : PS a m y2 y3) (s3 : SoIn c a m y3) : Stp c zs A B (m + 1) b y3 := by
  have hl := I.ps.len
  have hi := I.hi
  have hlo := I.lo
  have h3 := p3.len
  refine ⟨I.ps.trans (p3.mono I.lo (by omega) (by omega)), by omega, by omega, I.hi, SB.right hO ((I.ps.perm.nodup_iff).2 hn) (by omega) ham hmb h2 p3, fun w hw hs => I.go w ((p3.mono (Nat.le_refl _) (by omega) (by omega)).trans (hw.mono (by omega) (Nat.le_refl _) (by omega))) (so_left hO (by omega) ham hmb h1 h2 p3 s3 hw hs)⟩
theorem Stp.right {c : Int → Int → Int} {zs y2 y3 : List Int} {A B a b m : Nat} (hO : Ord c) (hn : zs.Nodup) (hB : B ≤ zs.length) (I : Stp c zs A B a b y2) (ham : a ≤ m) (hmb : m < b)
    (h1 : ∀ x, a ≤ x → x < m → c (y2.getD x 0) (y2.getD m 0) < 0) (h2 : ∀ x, m < x → x < b → ¬ c (y2.getD x 0) (y2.getD m 0) < 0) (p3 : PS (m + 1) b y2 y3) (s3 : SoIn c (m + 1) b y3) : Stp c zs A B a m y3 := by
  have hl := I.ps.len
  have hi := I.hi
  have h3 := p3.len
  refine ⟨I.ps.trans (p3.mono (by have := I.lo; omega) (by omega) (by omega)), I.lo, by omega, by omega, ?_, fun w hw hs => I.go w ((p3.mono (by omega) (Nat.le_refl _) (by omega)).trans (hw.mono (Nat.le_refl _) (by omega) (by omega))) (so_right hO (by omega) ham hmb h1 h2 p3 s3 hw hs)⟩
  rcases I.sb with h | h
  · exact .inl h
  · rcases Nat.eq_zero_or_pos a with h0 | h0
    · exact .inl h0
    exact .inr fun i h1 h2 => by rw [p3.outD (.inl (by omega)), p3.outD (.inl (by omega))]; exact h i h1 (by omega)

section
variable {f : Nat × Nat} {cap : List D} {c : Int → Int → Int} {M : Int → Prop} (hC : CmpC f cap c M) (hO : Ord c)
include hC hO

theorem n_pdq : ∀ (n : Nat) (zs : List Int) (a b lim : Nat), b - a = n → a ≤ b → b ≤ zs.length → (∀ z ∈ zs, M z) → zs.length ≤ 1000000 → zs.Nodup → lim ≤ 1000 → SB c a b zs →
    NSpec Try.prog 78 [.own 0 0 zs.length, .d (.int .i64 a), .d (.int .i64 b), .d (.int .i64 lim), .func f (cap.map V.d)] [.dat false 1 (zs.map dI)]
      (OutL (fun zs' => PS a b zs zs' ∧ SoIn c a b zs')) := by
  intro n
  induction n using Nat.strongRecOn with
  | _ n ih =>
  intro zs A B lim0 hAB0 hAB hB hM hl hnd hlim hsb
  refine NSpec.of_awp envOf_ok hmix Try.func78 rfl (fun args w => Try.call78 args w) (by simp [Try.f78]) ?_
  simp only [Try.f78]
  simp (maxSteps := 2000000) -implicitDefEqProofs only [zz, zE, evop, ev, ofVal, tget, tput, ok, V.isUndef, intBin, guardOf, initT, Ch.on, calleeOf, withArgs, told, xport, xports, tids, tidss, hget, hput, Blk.ice, freeze, V.cells, D.cells, V.isAgg, V.one, V.clo, clos, V.toD, loadD, structAt, eqCells, D.scalarEq, sliceOf, partsD, partsV, bound, isPtr, Blk.width, elems, lenOf, splice, D.over, resOf, resV, resVs, ↓reduceIte, reduceCtorEq, ↓reduceDIte, Nat.reduceLT, Nat.reduceEqDiff, Nat.reduceAdd, Nat.reduceSub, Nat.reduceMul, Nat.reduceLeDiff, Nat.reduceBEq, Nat.reduceBNe, Int.reduceNeg, Int.reduceAdd, Int.reduceSub, Int.reduceToNat, nilTest, shiftH, Blk.ren, V.ren, renL, initV, frameH, putL, frρ, dI, finN_ret, finN_normal, cutK_normal, cutK_ret, cutK_exit]
  refine wloop_ind (σ := Nat × Nat × Nat × Bool × Bool × List Int) (fun s => s.2.1 - s.1) (fun s => [(1, .d (.int .i64 (s.1 : Int))), (2, .d (.int .i64 (s.2.1 : Int))), (3, .d (.int .i64 (s.2.2.1 : Int))), (10, .d (.bool s.2.2.2.1)), (11, .d (.bool s.2.2.2.2.1)), (0, .own 0 0 zs.length), (4, .func f (cap.map V.d))]) (fun s => [.dat false 1 (s.2.2.2.2.2.map dI)]) (fun s => s.2.2.1 ≤ 1000 ∧ Stp c zs A B s.1 s.2.1 s.2.2.2.2.2) (A, B, lim0, true, true, zs) ⟨hlim, ⟨PS.refl hAB hB, Nat.le_refl _, hAB, Nat.le_refl _, hsb, fun _ _ h => h⟩⟩ (Weak.sub (by simp [tget])) ?_
  rintro ⟨a, b, lim, wb, wp, ys⟩ ⟨hlm, I⟩
  simp only at hlm I
  have hyl := I.ps.len
  have k1 := I.lo
  have k2 := I.le
  have k3 := I.hi
  have hMy : ∀ {ys : List Int}, Stp c zs A B a b ys → ∀ v ∈ ys, M v := fun I v h => hM v (I.ps.perm.mem_iff.1 h)
  obtain ⟨len, hlen⟩ : ∃ len, len = b - a := ⟨_, rfl⟩
  have w1 : IntKind.i64.wrap ((b : Int) - (a : Int)) = (len : Int) := by rw [wrap_in (by omega)]; omega
  by_cases h12 : (len : Int) ≤ 12
  · have hr := r_insertion_int ys a b k2 (by omega) (by omega) f cap hC.1 c (fun x hx y hy => hC.2 x y (hMy I x hx) (hMy I y hy))
    rw [hyl] at hr
    simp (maxSteps := 2000000) -implicitDefEqProofs only [zz, zE, evop, ev, ofVal, tget, tput, ok, V.isUndef, intBin, guardOf, initT, Ch.on, calleeOf, withArgs, told, xport, xports, tids, tidss, hget, hput, Blk.ice, freeze, V.cells, D.cells, V.isAgg, V.one, V.clo, clos, V.toD, loadD, structAt, eqCells, D.scalarEq, sliceOf, partsD, partsV, bound, isPtr, Blk.width, elems, lenOf, splice, D.over, resOf, resV, resVs, ↓reduceIte, reduceCtorEq, ↓reduceDIte, Nat.reduceLT, Nat.reduceEqDiff, Nat.reduceAdd, Nat.reduceSub, Nat.reduceMul, Nat.reduceLeDiff, Nat.reduceBEq, Nat.reduceBNe, Int.reduceNeg, Int.reduceAdd, Int.reduceSub, Int.reduceToNat, nilTest, shiftH, Blk.ren, V.ren, renL, initV, frameH, putL, frρ, dI, finN_ret, finN_normal, cutK_normal, cutK_ret, cutK_exit, w1, h12]
    refine acall_ref [0] (hr) (by first | rfl | simp [renL, V.ren, frρ, renL_ds]) (by simp) rfl (by simp) (by simp) (by intro j hj; match j, hj with | 0, _ => exact ⟨by simp [hget], rfl⟩) ?_
    try simp (maxSteps := 2000000) -implicitDefEqProofs only [zz, zE, evop, ev, ofVal, tget, tput, ok, V.isUndef, intBin, guardOf, initT, Ch.on, calleeOf, withArgs, told, xport, xports, tids, tidss, hget, hput, Blk.ice, freeze, V.cells, D.cells, V.isAgg, V.one, V.clo, clos, V.toD, loadD, structAt, eqCells, D.scalarEq, sliceOf, partsD, partsV, bound, isPtr, Blk.width, elems, lenOf, splice, D.over, resOf, resV, resVs, ↓reduceIte, reduceCtorEq, ↓reduceDIte, Nat.reduceLT, Nat.reduceEqDiff, Nat.reduceAdd, Nat.reduceSub, Nat.reduceMul, Nat.reduceLeDiff, Nat.reduceBEq, Nat.reduceBNe, Int.reduceNeg, Int.reduceAdd, Int.reduceSub, Int.reduceToNat, nilTest, shiftH, Blk.ren, V.ren, renL, initV, frameH, putL, frρ, dI, finN_ret, finN_normal, cutK_normal, cutK_ret, cutK_exit]
    obtain ⟨s1, s2⟩ := sortPart_ps hO (zs := ys) (a := a) (b := b) k2 (by omega)
    exact ⟨_, _, ⟨_, rfl, rfl, I.fin hB s1 s2⟩, Weak.trimsM 1 (by simp) rfl (by simp [tget, V.lower, lowerL, lowerL_ds]) (by simp [Blk.lower])⟩
  by_cases h0 : ((lim : Int) == 0) = true
  · have hr := n_heap_sorts hC ys (hMy I) (by omega) hO.swo a b k2 (by omega)
    rw [hyl] at hr
    simp (maxSteps := 2000000) -implicitDefEqProofs only [zz, zE, evop, ev, ofVal, tget, tput, ok, V.isUndef, intBin, guardOf, initT, Ch.on, calleeOf, withArgs, told, xport, xports, tids, tidss, hget, hput, Blk.ice, freeze, V.cells, D.cells, V.isAgg, V.one, V.clo, clos, V.toD, loadD, structAt, eqCells, D.scalarEq, sliceOf, partsD, partsV, bound, isPtr, Blk.width, elems, lenOf, splice, D.over, resOf, resV, resVs, ↓reduceIte, reduceCtorEq, ↓reduceDIte, Nat.reduceLT, Nat.reduceEqDiff, Nat.reduceAdd, Nat.reduceSub, Nat.reduceMul, Nat.reduceLeDiff, Nat.reduceBEq, Nat.reduceBNe, Int.reduceNeg, Int.reduceAdd, Int.reduceSub, Int.reduceToNat, nilTest, shiftH, Blk.ren, V.ren, renL, initV, frameH, putL, frρ, dI, finN_ret, finN_normal, cutK_normal, cutK_ret, cutK_exit, w1, h12, h0]
    refine acall_refN [0] (hr) (by first | rfl | simp [renL, V.ren, frρ, renL_ds]) (by simp) rfl (by first | (rintro _ _ ⟨_, rfl, rfl, _⟩; simp; done) | (rintro _ _ ⟨_, _, rfl, rfl, _⟩; simp; done) | (rintro _ _ ⟨_, _, _, rfl, rfl, _⟩; simp; done) | (rintro _ _ ⟨_, _, _, rfl, rfl⟩; simp; done)) (by simp) (by intro j hj; match j, hj with | 0, _ => exact ⟨by simp [hget], rfl⟩) ?_
    rintro _ _ ⟨ys', rfl, rfl, s1, s2⟩
    simp (maxSteps := 2000000) -implicitDefEqProofs only [zz, zE, evop, ev, ofVal, tget, tput, ok, V.isUndef, intBin, guardOf, initT, Ch.on, calleeOf, withArgs, told, xport, xports, tids, tidss, hget, hput, Blk.ice, freeze, V.cells, D.cells, V.isAgg, V.one, V.clo, clos, V.toD, loadD, structAt, eqCells, D.scalarEq, sliceOf, partsD, partsV, bound, isPtr, Blk.width, elems, lenOf, splice, D.over, resOf, resV, resVs, ↓reduceIte, reduceCtorEq, ↓reduceDIte, Nat.reduceLT, Nat.reduceEqDiff, Nat.reduceAdd, Nat.reduceSub, Nat.reduceMul, Nat.reduceLeDiff, Nat.reduceBEq, Nat.reduceBNe, Int.reduceNeg, Int.reduceAdd, Int.reduceSub, Int.reduceToNat, nilTest, shiftH, Blk.ren, V.ren, renL, initV, frameH, putL, frρ, dI, finN_ret, finN_normal, cutK_normal, cutK_ret, cutK_exit]
    exact ⟨_, _, ⟨_, rfl, rfl, I.fin hB s1 s2⟩, Weak.trimsM 1 (by simp) rfl (by simp [tget, V.lower, lowerL, lowerL_ds]) (by simp [Blk.lower])⟩
  have h0' : ((lim : Int) == 0) = false := by simpa using h0
  have hl1 : 1 ≤ lim := by have : (lim : Int) ≠ 0 := by simpa using h0'
                           omega
  have hne : ∀ {ys : List Int}, Stp c zs A B a b ys → ys.length = zs.length := fun I => I.ps.len
  cases wb
  case' false =>
    have w2 : IntKind.i64.wrap ((lim : Int) - 1) = ((lim - 1 : Nat) : Int) := by rw [wrap_in (by omega)]; omega
    have hr := n_break ys (by omega) a b (by omega) (by omega) f cap
    rw [hyl] at hr
    simp (maxSteps := 2000000) -implicitDefEqProofs only [zz, zE, evop, ev, ofVal, tget, tput, ok, V.isUndef, intBin, guardOf, initT, Ch.on, calleeOf, withArgs, told, xport, xports, tids, tidss, hget, hput, Blk.ice, freeze, V.cells, D.cells, V.isAgg, V.one, V.clo, clos, V.toD, loadD, structAt, eqCells, D.scalarEq, sliceOf, partsD, partsV, bound, isPtr, Blk.width, elems, lenOf, splice, D.over, resOf, resV, resVs, ↓reduceIte, reduceCtorEq, ↓reduceDIte, Nat.reduceLT, Nat.reduceEqDiff, Nat.reduceAdd, Nat.reduceSub, Nat.reduceMul, Nat.reduceLeDiff, Nat.reduceBEq, Nat.reduceBNe, Int.reduceNeg, Int.reduceAdd, Int.reduceSub, Int.reduceToNat, nilTest, shiftH, Blk.ren, V.ren, renL, initV, frameH, putL, frρ, dI, finN_ret, finN_normal, cutK_normal, cutK_ret, cutK_exit, w1, h12, h0']
    refine acall_refN [0] (hr) (by first | rfl | simp [renL, V.ren, frρ, renL_ds]) (by simp) rfl (by first | (rintro _ _ ⟨_, rfl, rfl, _⟩; simp; done) | (rintro _ _ ⟨_, _, rfl, rfl, _⟩; simp; done) | (rintro _ _ ⟨_, _, _, rfl, rfl, _⟩; simp; done) | (rintro _ _ ⟨_, _, _, rfl, rfl⟩; simp; done)) (by simp) (by intro j hj; match j, hj with | 0, _ => exact ⟨by simp [hget], rfl⟩) ?_
    rintro _ _ ⟨ys', rfl, rfl, s1⟩
    simp (maxSteps := 2000000) -implicitDefEqProofs only [zz, zE, evop, ev, ofVal, tget, tput, ok, V.isUndef, intBin, guardOf, initT, Ch.on, calleeOf, withArgs, told, xport, xports, tids, tidss, hget, hput, Blk.ice, freeze, V.cells, D.cells, V.isAgg, V.one, V.clo, clos, V.toD, loadD, structAt, eqCells, D.scalarEq, sliceOf, partsD, partsV, bound, isPtr, Blk.width, elems, lenOf, splice, D.over, resOf, resV, resVs, ↓reduceIte, reduceCtorEq, ↓reduceDIte, Nat.reduceLT, Nat.reduceEqDiff, Nat.reduceAdd, Nat.reduceSub, Nat.reduceMul, Nat.reduceLeDiff, Nat.reduceBEq, Nat.reduceBNe, Int.reduceNeg, Int.reduceAdd, Int.reduceSub, Int.reduceToNat, nilTest, shiftH, Blk.ren, V.ren, renL, initV, frameH, putL, frρ, dI, finN_ret, finN_normal, cutK_normal, cutK_ret, cutK_exit, w2]
    have I := I.turn hO hB s1
    obtain ⟨lm, hlm2⟩ : ∃ lm, lm = lim - 1 := ⟨_, rfl⟩
    rw [← hlm2]
    have hlm3 : lm ≤ 1000 := by omega
    clear hyl w2
    have hyl := I.ps.len
  case' true =>
    simp (maxSteps := 2000000) -implicitDefEqProofs only [zz, zE, evop, ev, ofVal, tget, tput, ok, V.isUndef, intBin, guardOf, initT, Ch.on, calleeOf, withArgs, told, xport, xports, tids, tidss, hget, hput, Blk.ice, freeze, V.cells, D.cells, V.isAgg, V.one, V.clo, clos, V.toD, loadD, structAt, eqCells, D.scalarEq, sliceOf, partsD, partsV, bound, isPtr, Blk.width, elems, lenOf, splice, D.over, resOf, resV, resVs, ↓reduceIte, reduceCtorEq, ↓reduceDIte, Nat.reduceLT, Nat.reduceEqDiff, Nat.reduceAdd, Nat.reduceSub, Nat.reduceMul, Nat.reduceLeDiff, Nat.reduceBEq, Nat.reduceBNe, Int.reduceNeg, Int.reduceAdd, Int.reduceSub, Int.reduceToNat, nilTest, shiftH, Blk.ren, V.ren, renL, initV, frameH, putL, frρ, dI, finN_ret, finN_normal, cutK_normal, cutK_ret, cutK_exit, w1, h12, h0']
    obtain ⟨lm, hlm2⟩ : ∃ lm, lm = lim := ⟨_, rfl⟩
    rw [← hlm2]
    have hlm3 : lm ≤ 1000 := by omega
    obtain ⟨ys', hys'⟩ : ∃ ys', ys' = ys := ⟨_, rfl⟩
    rw [← hys'] at I hyl
    rw [← hys']
  all_goals
    have hr := n_choose hC ys' (hMy I) (by omega) a b (by omega) (by omega)
    rw [hyl] at hr
    refine acall_refN [0] (hr) (by first | rfl | simp [renL, V.ren, frρ, renL_ds]) (by simp) rfl (by first | (rintro _ _ ⟨_, rfl, rfl, _⟩; simp; done) | (rintro _ _ ⟨_, _, rfl, rfl, _⟩; simp; done) | (rintro _ _ ⟨_, _, _, rfl, rfl, _⟩; simp; done) | (rintro _ _ ⟨_, _, _, rfl, rfl⟩; simp; done)) (by simp) (by intro j hj; match j, hj with | 0, _ => exact ⟨by simp [hget], rfl⟩) ?_
    rintro _ _ ⟨pv, hint, rfl, rfl, hpv⟩
    have w3 : IntKind.i64.wrap ((b : Int) - 1) = (b : Int) - 1 := by rw [wrap_in (by omega)]
    have w4 : IntKind.i64.wrap ((pv : Int) - (a : Int)) = (pv : Int) - (a : Int) := by rw [wrap_in (by omega)]
    have w5 : IntKind.i64.wrap ((b : Int) - 1 - ((pv : Int) - (a : Int))) = ((b - 1 - (pv - a) : Nat) : Int) := by rw [wrap_in (by omega)]; omega
    cases hh : (hint == 2)
    case' true =>
      have hr := n_reverse ys' a b (by omega) (by omega) (by omega) f cap
      rw [hyl] at hr
      simp (maxSteps := 2000000) -implicitDefEqProofs only [zz, zE, evop, ev, ofVal, tget, tput, ok, V.isUndef, intBin, guardOf, initT, Ch.on, calleeOf, withArgs, told, xport, xports, tids, tidss, hget, hput, Blk.ice, freeze, V.cells, D.cells, V.isAgg, V.one, V.clo, clos, V.toD, loadD, structAt, eqCells, D.scalarEq, sliceOf, partsD, partsV, bound, isPtr, Blk.width, elems, lenOf, splice, D.over, resOf, resV, resVs, ↓reduceIte, reduceCtorEq, ↓reduceDIte, Nat.reduceLT, Nat.reduceEqDiff, Nat.reduceAdd, Nat.reduceSub, Nat.reduceMul, Nat.reduceLeDiff, Nat.reduceBEq, Nat.reduceBNe, Int.reduceNeg, Int.reduceAdd, Int.reduceSub, Int.reduceToNat, nilTest, shiftH, Blk.ren, V.ren, renL, initV, frameH, putL, frρ, dI, finN_ret, finN_normal, cutK_normal, cutK_ret, cutK_exit, hh]
      refine acall_refN [0] (hr) (by first | rfl | simp [renL, V.ren, frρ, renL_ds]) (by simp) rfl (by first | (rintro _ _ ⟨_, rfl, rfl, _⟩; simp; done) | (rintro _ _ ⟨_, _, rfl, rfl, _⟩; simp; done) | (rintro _ _ ⟨_, _, _, rfl, rfl, _⟩; simp; done) | (rintro _ _ ⟨_, _, _, rfl, rfl⟩; simp; done)) (by simp) (by intro j hj; match j, hj with | 0, _ => exact ⟨by simp [hget], rfl⟩) ?_
      rintro _ _ ⟨us, rfl, rfl, s1⟩
      simp (maxSteps := 2000000) -implicitDefEqProofs only [zz, zE, evop, ev, ofVal, tget, tput, ok, V.isUndef, intBin, guardOf, initT, Ch.on, calleeOf, withArgs, told, xport, xports, tids, tidss, hget, hput, Blk.ice, freeze, V.cells, D.cells, V.isAgg, V.one, V.clo, clos, V.toD, loadD, structAt, eqCells, D.scalarEq, sliceOf, partsD, partsV, bound, isPtr, Blk.width, elems, lenOf, splice, D.over, resOf, resV, resVs, ↓reduceIte, reduceCtorEq, ↓reduceDIte, Nat.reduceLT, Nat.reduceEqDiff, Nat.reduceAdd, Nat.reduceSub, Nat.reduceMul, Nat.reduceLeDiff, Nat.reduceBEq, Nat.reduceBNe, Int.reduceNeg, Int.reduceAdd, Int.reduceSub, Int.reduceToNat, nilTest, shiftH, Blk.ren, V.ren, renL, initV, frameH, putL, frρ, dI, finN_ret, finN_normal, cutK_normal, cutK_ret, cutK_exit, w3, w4, w5]
      have I := I.turn hO hB s1
      obtain ⟨pw, hpw⟩ : ∃ pw, pw = b - 1 - (pv - a) := ⟨_, rfl⟩
      rw [← hpw]
      have hpb : a ≤ pw ∧ pw < b := by omega
    case' false =>
      simp (maxSteps := 2000000) -implicitDefEqProofs only [zz, zE, evop, ev, ofVal, tget, tput, ok, V.isUndef, intBin, guardOf, initT, Ch.on, calleeOf, withArgs, told, xport, xports, tids, tidss, hget, hput, Blk.ice, freeze, V.cells, D.cells, V.isAgg, V.one, V.clo, clos, V.toD, loadD, structAt, eqCells, D.scalarEq, sliceOf, partsD, partsV, bound, isPtr, Blk.width, elems, lenOf, splice, D.over, resOf, resV, resVs, ↓reduceIte, reduceCtorEq, ↓reduceDIte, Nat.reduceLT, Nat.reduceEqDiff, Nat.reduceAdd, Nat.reduceSub, Nat.reduceMul, Nat.reduceLeDiff, Nat.reduceBEq, Nat.reduceBNe, Int.reduceNeg, Int.reduceAdd, Int.reduceSub, Int.reduceToNat, nilTest, shiftH, Blk.ren, V.ren, renL, initV, frameH, putL, frρ, dI, finN_ret, finN_normal, cutK_normal, cutK_ret, cutK_exit, hh]
      obtain ⟨pw, hpw⟩ : ∃ pw, pw = pv := ⟨_, rfl⟩
      rw [← hpw]
      have hpb : a ≤ pw ∧ pw < b := by omega
      obtain ⟨us, hus⟩ : ∃ us, us = ys' := ⟨_, rfl⟩
      rw [← hus] at I hyl
      rw [← hus]
    all_goals
      clear hyl w3 w4 w5
      have hul := I.ps.len
      have hr := n_pins_sorts hC us (hMy I) (by omega) hO.swo a b (by omega) (by omega) (I.sb.below hO)
      rw [hul] at hr
      first
      | (((try simp (maxSteps := 2000000) -implicitDefEqProofs only [zz, zE, evop, ev, ofVal, tget, tput, ok, V.isUndef, intBin, guardOf, initT, Ch.on, calleeOf, withArgs, told, xport, xports, tids, tidss, hget, hput, Blk.ice, freeze, V.cells, D.cells, V.isAgg, V.one, V.clo, clos, V.toD, loadD, structAt, eqCells, D.scalarEq, sliceOf, partsD, partsV, bound, isPtr, Blk.width, elems, lenOf, splice, D.over, resOf, resV, resVs, ↓reduceIte, reduceCtorEq, ↓reduceDIte, Nat.reduceLT, Nat.reduceEqDiff, Nat.reduceAdd, Nat.reduceSub, Nat.reduceMul, Nat.reduceLeDiff, Nat.reduceBEq, Nat.reduceBNe, Int.reduceNeg, Int.reduceAdd, Int.reduceSub, Int.reduceToNat, nilTest, shiftH, Blk.ren, V.ren, renL, initV, frameH, putL, frρ, dI, finN_ret, finN_normal, cutK_normal, cutK_ret, cutK_exit]); refine wdraw_plan [⟨[], true, [], [], false⟩, ⟨[0], true, [], [], false⟩, ⟨[0, 1], true, [], [], false⟩, ⟨[0, 1, 2], false, [85, 86, 87, 88, 89, 90, 91, 92, 93], [], false⟩, ⟨[0, 1, 2], false, [84, 86, 87, 90, 91, 92, 93], [3], false⟩, ⟨[0, 1, 2], false, [84, 85, 90, 91, 92, 93], [3, 4], false⟩, ⟨[0, 1, 2, 5], false, [84, 85, 90, 91, 92, 93], [3, 4], false⟩, ⟨[0, 1, 2, 4, 5, 6], false, [84, 90, 91, 92, 93], [3], false⟩, ⟨[0, 1, 2, 4, 5, 6, 7], false, [84, 90, 91, 92, 93], [3], false⟩, ⟨[0, 1, 2], false, [84, 85, 86, 87, 88, 89, 91], [3, 4, 5, 6, 7, 8], false⟩, ⟨[0, 1, 2], false, [84, 85, 86, 87, 88, 89, 90], [3, 4, 5, 6, 7, 8, 9], false⟩, ⟨[0, 1, 2, 9, 10], false, [84, 85, 86, 87, 88, 89], [3, 4, 5, 6, 7, 8], false⟩, ⟨[0, 1, 2, 9, 10, 11], false, [84, 85, 86, 87, 88, 89], [3, 4, 5, 6, 7, 8], false⟩, ⟨[0, 1, 2, 3, 4, 5, 6, 7, 8, 9, 10, 11, 12], false, [], [], false⟩, ⟨[0, 1, 2, 3, 4, 5, 6, 7, 8, 9, 10, 11, 12, 13], false, [], [], false⟩, ⟨[0, 1, 2, 3, 4, 5, 6, 7, 8, 9, 10, 11, 12, 13, 14], false, [], [], false⟩, ⟨[0, 1, 2, 3, 4, 5, 6, 7, 8, 9, 10, 11, 12, 13, 14, 15], true, [], [], false⟩] (by decide) ?_); obtain ⟨vs, hvs⟩ : ∃ vs, vs = us := ⟨_, rfl⟩; rw [← hvs] at I hul; rw [← hvs])
      | (cases wp
         case' false => (simp (maxSteps := 2000000) -implicitDefEqProofs only [zz, zE, evop, ev, ofVal, tget, tput, ok, V.isUndef, intBin, guardOf, initT, Ch.on, calleeOf, withArgs, told, xport, xports, tids, tidss, hget, hput, Blk.ice, freeze, V.cells, D.cells, V.isAgg, V.one, V.clo, clos, V.toD, loadD, structAt, eqCells, D.scalarEq, sliceOf, partsD, partsV, bound, isPtr, Blk.width, elems, lenOf, splice, D.over, resOf, resV, resVs, ↓reduceIte, reduceCtorEq, ↓reduceDIte, Nat.reduceLT, Nat.reduceEqDiff, Nat.reduceAdd, Nat.reduceSub, Nat.reduceMul, Nat.reduceLeDiff, Nat.reduceBEq, Nat.reduceBNe, Int.reduceNeg, Int.reduceAdd, Int.reduceSub, Int.reduceToNat, nilTest, shiftH, Blk.ren, V.ren, renL, initV, frameH, putL, frρ, dI, finN_ret, finN_normal, cutK_normal, cutK_ret, cutK_exit]; obtain ⟨vs, hvs⟩ : ∃ vs, vs = us := ⟨_, rfl⟩; rw [← hvs] at I hul; rw [← hvs])
         case' true =>
           first
           | ((try simp (maxSteps := 2000000) -implicitDefEqProofs only [zz, zE, evop, ev, ofVal, tget, tput, ok, V.isUndef, intBin, guardOf, initT, Ch.on, calleeOf, withArgs, told, xport, xports, tids, tidss, hget, hput, Blk.ice, freeze, V.cells, D.cells, V.isAgg, V.one, V.clo, clos, V.toD, loadD, structAt, eqCells, D.scalarEq, sliceOf, partsD, partsV, bound, isPtr, Blk.width, elems, lenOf, splice, D.over, resOf, resV, resVs, ↓reduceIte, reduceCtorEq, ↓reduceDIte, Nat.reduceLT, Nat.reduceEqDiff, Nat.reduceAdd, Nat.reduceSub, Nat.reduceMul, Nat.reduceLeDiff, Nat.reduceBEq, Nat.reduceBNe, Int.reduceNeg, Int.reduceAdd, Int.reduceSub, Int.reduceToNat, nilTest, shiftH, Blk.ren, V.ren, renL, initV, frameH, putL, frρ, dI, finN_ret, finN_normal, cutK_normal, cutK_ret, cutK_exit]); refine acall_refN [0] (hr) (by first | rfl | simp [renL, V.ren, frρ, renL_ds]) (by simp) rfl (by rintro _ _ ⟨_, _, rfl, rfl, _⟩; simp) (by simp) (by intro j hj; match j, hj with | 0, _ => exact ⟨by simp [hget], rfl⟩) ?_; rintro _ _ ⟨ok, vs, rfl, rfl, s1, s2⟩; cases ok; (case' true => (simp (maxSteps := 2000000) -implicitDefEqProofs only [zz, zE, evop, ev, ofVal, tget, tput, ok, V.isUndef, intBin, guardOf, initT, Ch.on, calleeOf, withArgs, told, xport, xports, tids, tidss, hget, hput, Blk.ice, freeze, V.cells, D.cells, V.isAgg, V.one, V.clo, clos, V.toD, loadD, structAt, eqCells, D.scalarEq, sliceOf, partsD, partsV, bound, isPtr, Blk.width, elems, lenOf, splice, D.over, resOf, resV, resVs, ↓reduceIte, reduceCtorEq, ↓reduceDIte, Nat.reduceLT, Nat.reduceEqDiff, Nat.reduceAdd, Nat.reduceSub, Nat.reduceMul, Nat.reduceLeDiff, Nat.reduceBEq, Nat.reduceBNe, Int.reduceNeg, Int.reduceAdd, Int.reduceSub, Int.reduceToNat, nilTest, shiftH, Blk.ren, V.ren, renL, initV, frameH, putL, frρ, dI, finN_ret, finN_normal, cutK_normal, cutK_ret, cutK_exit]; exact ⟨_, _, ⟨_, rfl, rfl, I.fin hB s1 (s2 rfl)⟩, Weak.trimsM 1 (by simp) rfl (by simp [tget, V.lower, lowerL, lowerL_ds]) (by simp [Blk.lower])⟩)); (case' false => (simp (maxSteps := 2000000) -implicitDefEqProofs only [zz, zE, evop, ev, ofVal, tget, tput, ok, V.isUndef, intBin, guardOf, initT, Ch.on, calleeOf, withArgs, told, xport, xports, tids, tidss, hget, hput, Blk.ice, freeze, V.cells, D.cells, V.isAgg, V.one, V.clo, clos, V.toD, loadD, structAt, eqCells, D.scalarEq, sliceOf, partsD, partsV, bound, isPtr, Blk.width, elems, lenOf, splice, D.over, resOf, resV, resVs, ↓reduceIte, reduceCtorEq, ↓reduceDIte, Nat.reduceLT, Nat.reduceEqDiff, Nat.reduceAdd, Nat.reduceSub, Nat.reduceMul, Nat.reduceLeDiff, Nat.reduceBEq, Nat.reduceBNe, Int.reduceNeg, Int.reduceAdd, Int.reduceSub, Int.reduceToNat, nilTest, shiftH, Blk.ren, V.ren, renL, initV, frameH, putL, frρ, dI, finN_ret, finN_normal, cutK_normal, cutK_ret, cutK_exit]; have I := I.turn hO hB s1)))
           | (cases h1 : (hint == 1)
              case' false => (simp (maxSteps := 2000000) -implicitDefEqProofs only [zz, zE, evop, ev, ofVal, tget, tput, ok, V.isUndef, intBin, guardOf, initT, Ch.on, calleeOf, withArgs, told, xport, xports, tids, tidss, hget, hput, Blk.ice, freeze, V.cells, D.cells, V.isAgg, V.one, V.clo, clos, V.toD, loadD, structAt, eqCells, D.scalarEq, sliceOf, partsD, partsV, bound, isPtr, Blk.width, elems, lenOf, splice, D.over, resOf, resV, resVs, ↓reduceIte, reduceCtorEq, ↓reduceDIte, Nat.reduceLT, Nat.reduceEqDiff, Nat.reduceAdd, Nat.reduceSub, Nat.reduceMul, Nat.reduceLeDiff, Nat.reduceBEq, Nat.reduceBNe, Int.reduceNeg, Int.reduceAdd, Int.reduceSub, Int.reduceToNat, nilTest, shiftH, Blk.ren, V.ren, renL, initV, frameH, putL, frρ, dI, finN_ret, finN_normal, cutK_normal, cutK_ret, cutK_exit, h1]; obtain ⟨vs, hvs⟩ : ∃ vs, vs = us := ⟨_, rfl⟩; rw [← hvs] at I hul; rw [← hvs])
              case' true => (simp (maxSteps := 2000000) -implicitDefEqProofs only [zz, zE, evop, ev, ofVal, tget, tput, ok, V.isUndef, intBin, guardOf, initT, Ch.on, calleeOf, withArgs, told, xport, xports, tids, tidss, hget, hput, Blk.ice, freeze, V.cells, D.cells, V.isAgg, V.one, V.clo, clos, V.toD, loadD, structAt, eqCells, D.scalarEq, sliceOf, partsD, partsV, bound, isPtr, Blk.width, elems, lenOf, splice, D.over, resOf, resV, resVs, ↓reduceIte, reduceCtorEq, ↓reduceDIte, Nat.reduceLT, Nat.reduceEqDiff, Nat.reduceAdd, Nat.reduceSub, Nat.reduceMul, Nat.reduceLeDiff, Nat.reduceBEq, Nat.reduceBNe, Int.reduceNeg, Int.reduceAdd, Int.reduceSub, Int.reduceToNat, nilTest, shiftH, Blk.ren, V.ren, renL, initV, frameH, putL, frρ, dI, finN_ret, finN_normal, cutK_normal, cutK_ret, cutK_exit, h1]; (try simp (maxSteps := 2000000) -implicitDefEqProofs only [zz, zE, evop, ev, ofVal, tget, tput, ok, V.isUndef, intBin, guardOf, initT, Ch.on, calleeOf, withArgs, told, xport, xports, tids, tidss, hget, hput, Blk.ice, freeze, V.cells, D.cells, V.isAgg, V.one, V.clo, clos, V.toD, loadD, structAt, eqCells, D.scalarEq, sliceOf, partsD, partsV, bound, isPtr, Blk.width, elems, lenOf, splice, D.over, resOf, resV, resVs, ↓reduceIte, reduceCtorEq, ↓reduceDIte, Nat.reduceLT, Nat.reduceEqDiff, Nat.reduceAdd, Nat.reduceSub, Nat.reduceMul, Nat.reduceLeDiff, Nat.reduceBEq, Nat.reduceBNe, Int.reduceNeg, Int.reduceAdd, Int.reduceSub, Int.reduceToNat, nilTest, shiftH, Blk.ren, V.ren, renL, initV, frameH, putL, frρ, dI, finN_ret, finN_normal, cutK_normal, cutK_ret, cutK_exit]); refine acall_refN [0] (hr) (by first | rfl | simp [renL, V.ren, frρ, renL_ds]) (by simp) rfl (by rintro _ _ ⟨_, _, rfl, rfl, _⟩; simp) (by simp) (by intro j hj; match j, hj with | 0, _ => exact ⟨by simp [hget], rfl⟩) ?_; rintro _ _ ⟨ok, vs, rfl, rfl, s1, s2⟩; cases ok; (case' true => (simp (maxSteps := 2000000) -implicitDefEqProofs only [zz, zE, evop, ev, ofVal, tget, tput, ok, V.isUndef, intBin, guardOf, initT, Ch.on, calleeOf, withArgs, told, xport, xports, tids, tidss, hget, hput, Blk.ice, freeze, V.cells, D.cells, V.isAgg, V.one, V.clo, clos, V.toD, loadD, structAt, eqCells, D.scalarEq, sliceOf, partsD, partsV, bound, isPtr, Blk.width, elems, lenOf, splice, D.over, resOf, resV, resVs, ↓reduceIte, reduceCtorEq, ↓reduceDIte, Nat.reduceLT, Nat.reduceEqDiff, Nat.reduceAdd, Nat.reduceSub, Nat.reduceMul, Nat.reduceLeDiff, Nat.reduceBEq, Nat.reduceBNe, Int.reduceNeg, Int.reduceAdd, Int.reduceSub, Int.reduceToNat, nilTest, shiftH, Blk.ren, V.ren, renL, initV, frameH, putL, frρ, dI, finN_ret, finN_normal, cutK_normal, cutK_ret, cutK_exit]; exact ⟨_, _, ⟨_, rfl, rfl, I.fin hB s1 (s2 rfl)⟩, Weak.trimsM 1 (by simp) rfl (by simp [tget, V.lower, lowerL, lowerL_ds]) (by simp [Blk.lower])⟩)); (case' false => (simp (maxSteps := 2000000) -implicitDefEqProofs only [zz, zE, evop, ev, ofVal, tget, tput, ok, V.isUndef, intBin, guardOf, initT, Ch.on, calleeOf, withArgs, told, xport, xports, tids, tidss, hget, hput, Blk.ice, freeze, V.cells, D.cells, V.isAgg, V.one, V.clo, clos, V.toD, loadD, structAt, eqCells, D.scalarEq, sliceOf, partsD, partsV, bound, isPtr, Blk.width, elems, lenOf, splice, D.over, resOf, resV, resVs, ↓reduceIte, reduceCtorEq, ↓reduceDIte, Nat.reduceLT, Nat.reduceEqDiff, Nat.reduceAdd, Nat.reduceSub, Nat.reduceMul, Nat.reduceLeDiff, Nat.reduceBEq, Nat.reduceBNe, Int.reduceNeg, Int.reduceAdd, Int.reduceSub, Int.reduceToNat, nilTest, shiftH, Blk.ren, V.ren, renL, initV, frameH, putL, frρ, dI, finN_ret, finN_normal, cutK_normal, cutK_ret, cutK_exit]; have I := I.turn hO hB s1))))
         all_goals ((try simp (maxSteps := 2000000) -implicitDefEqProofs only [zz, zE, evop, ev, ofVal, tget, tput, ok, V.isUndef, intBin, guardOf, initT, Ch.on, calleeOf, withArgs, told, xport, xports, tids, tidss, hget, hput, Blk.ice, freeze, V.cells, D.cells, V.isAgg, V.one, V.clo, clos, V.toD, loadD, structAt, eqCells, D.scalarEq, sliceOf, partsD, partsV, bound, isPtr, Blk.width, elems, lenOf, splice, D.over, resOf, resV, resVs, ↓reduceIte, reduceCtorEq, ↓reduceDIte, Nat.reduceLT, Nat.reduceEqDiff, Nat.reduceAdd, Nat.reduceSub, Nat.reduceMul, Nat.reduceLeDiff, Nat.reduceBEq, Nat.reduceBNe, Int.reduceNeg, Int.reduceAdd, Int.reduceSub, Int.reduceToNat, nilTest, shiftH, Blk.ren, V.ren, renL, initV, frameH, putL, frρ, dI, finN_ret, finN_normal, cutK_normal, cutK_ret, cutK_exit]); refine wdraw_plan [⟨[], true, [], [], false⟩, ⟨[0], true, [], [], false⟩, ⟨[0, 1], true, [], [], false⟩, ⟨[0, 1, 2], false, [85, 86, 87, 88, 89, 90, 91, 92, 93], [], false⟩, ⟨[0, 1, 2], false, [84, 86, 87, 90, 91, 92, 93], [3], false⟩, ⟨[0, 1, 2], false, [84, 85, 90, 91, 92, 93], [3, 4], false⟩, ⟨[0, 1, 2, 5], false, [84, 85, 90, 91, 92, 93], [3, 4], false⟩, ⟨[0, 1, 2, 4, 5, 6], false, [84, 90, 91, 92, 93], [3], false⟩, ⟨[0, 1, 2, 4, 5, 6, 7], false, [84, 90, 91, 92, 93], [3], false⟩, ⟨[0, 1, 2], false, [84, 85, 86, 87, 88, 89, 91], [3, 4, 5, 6, 7, 8], false⟩, ⟨[0, 1, 2], false, [84, 85, 86, 87, 88, 89, 90], [3, 4, 5, 6, 7, 8, 9], false⟩, ⟨[0, 1, 2, 9, 10], false, [84, 85, 86, 87, 88, 89], [3, 4, 5, 6, 7, 8], false⟩, ⟨[0, 1, 2, 9, 10, 11], false, [84, 85, 86, 87, 88, 89], [3, 4, 5, 6, 7, 8], false⟩, ⟨[0, 1, 2, 3, 4, 5, 6, 7, 8, 9, 10, 11, 12], false, [], [], false⟩, ⟨[0, 1, 2, 3, 4, 5, 6, 7, 8, 9, 10, 11, 12, 13], false, [], [], false⟩, ⟨[0, 1, 2, 3, 4, 5, 6, 7, 8, 9, 10, 11, 12, 13, 14], false, [], [], false⟩, ⟨[0, 1, 2, 3, 4, 5, 6, 7, 8, 9, 10, 11, 12, 13, 14, 15], true, [], [], false⟩] (by decide) ?_))
      all_goals
        clear hr hul
        have hvl := I.ps.len
        by_cases ha : (a : Int) > 0
        case' pos =>
          have w6 : IntKind.i64.wrap ((a : Int) - 1) = ((a - 1 : Nat) : Int) := by rw [wrap_in (by omega)]; omega
          have g1 := getD_some (l := vs) (i := a - 1) (by omega)
          have g2 := getD_some (l := vs) (i := pw) (by omega)
          have hlt : c (vs.getD (a - 1) 0) (vs.getD pw 0) < 0 := by
            rcases I.sb with h | h
            · omega
            · exact h pw hpb.1 hpb.2
          simp (maxSteps := 2000000) -implicitDefEqProofs only [zz, zE, evop, ev, ofVal, tget, tput, ok, V.isUndef, intBin, guardOf, initT, Ch.on, calleeOf, withArgs, told, xport, xports, tids, tidss, hget, hput, Blk.ice, freeze, V.cells, D.cells, V.isAgg, V.one, V.clo, clos, V.toD, loadD, structAt, eqCells, D.scalarEq, sliceOf, partsD, partsV, bound, isPtr, Blk.width, elems, lenOf, splice, D.over, resOf, resV, resVs, ↓reduceIte, reduceCtorEq, ↓reduceDIte, Nat.reduceLT, Nat.reduceEqDiff, Nat.reduceAdd, Nat.reduceSub, Nat.reduceMul, Nat.reduceLeDiff, Nat.reduceBEq, Nat.reduceBNe, Int.reduceNeg, Int.reduceAdd, Int.reduceSub, Int.reduceToNat, nilTest, shiftH, Blk.ren, V.ren, renL, initV, frameH, putL, frρ, dI, finN_ret, finN_normal, cutK_normal, cutK_ret, cutK_exit, ha, w6, List.getElem?_map, g1, g2, Option.map_some, Int.natCast_nonneg]
          refine ⟨by omega, by omega, ?_⟩
          refine dcall_flat (ds := cap.take f.2 ++ (dI (vs.getD (a - 1) 0) :: dI (vs.getD pw 0) :: cap.drop f.2)) (xports_two cap f.2 _ _ hC.1) (hC.2 _ _ (hMy I _ (List.mem_of_getElem? g1)) (hMy I _ (List.mem_of_getElem? g2))) rfl ?_
          simp (maxSteps := 2000000) -implicitDefEqProofs only [zz, zE, evop, ev, ofVal, tget, tput, ok, V.isUndef, intBin, guardOf, initT, Ch.on, calleeOf, withArgs, told, xport, xports, tids, tidss, hget, hput, Blk.ice, freeze, V.cells, D.cells, V.isAgg, V.one, V.clo, clos, V.toD, loadD, structAt, eqCells, D.scalarEq, sliceOf, partsD, partsV, bound, isPtr, Blk.width, elems, lenOf, splice, D.over, resOf, resV, resVs, ↓reduceIte, reduceCtorEq, ↓reduceDIte, Nat.reduceLT, Nat.reduceEqDiff, Nat.reduceAdd, Nat.reduceSub, Nat.reduceMul, Nat.reduceLeDiff, Nat.reduceBEq, Nat.reduceBNe, Int.reduceNeg, Int.reduceAdd, Int.reduceSub, Int.reduceToNat, nilTest, shiftH, Blk.ren, V.ren, renL, initV, frameH, putL, frρ, dI, finN_ret, finN_normal, cutK_normal, cutK_ret, cutK_exit, hlt]
          clear g1 g2 hlt w6
        case' neg =>
          simp (maxSteps := 2000000) -implicitDefEqProofs only [zz, zE, evop, ev, ofVal, tget, tput, ok, V.isUndef, intBin, guardOf, initT, Ch.on, calleeOf, withArgs, told, xport, xports, tids, tidss, hget, hput, Blk.ice, freeze, V.cells, D.cells, V.isAgg, V.one, V.clo, clos, V.toD, loadD, structAt, eqCells, D.scalarEq, sliceOf, partsD, partsV, bound, isPtr, Blk.width, elems, lenOf, splice, D.over, resOf, resV, resVs, ↓reduceIte, reduceCtorEq, ↓reduceDIte, Nat.reduceLT, Nat.reduceEqDiff, Nat.reduceAdd, Nat.reduceSub, Nat.reduceMul, Nat.reduceLeDiff, Nat.reduceBEq, Nat.reduceBNe, Int.reduceNeg, Int.reduceAdd, Int.reduceSub, Int.reduceToNat, nilTest, shiftH, Blk.ren, V.ren, renL, initV, frameH, putL, frρ, dI, finN_ret, finN_normal, cutK_normal, cutK_ret, cutK_exit, ha]
        all_goals
          have hr := n_partition hC vs (hMy I) (by omega) a b pw (by omega) (by omega) hpb
          rw [hvl] at hr
          refine acall_refN [0] (hr) (by first | rfl | simp [renL, V.ren, frρ, renL_ds]) (by simp) rfl (by first | (rintro _ _ ⟨_, rfl, rfl, _⟩; simp; done) | (rintro _ _ ⟨_, _, rfl, rfl, _⟩; simp; done) | (rintro _ _ ⟨_, _, _, rfl, rfl, _⟩; simp; done) | (rintro _ _ ⟨_, _, _, rfl, rfl⟩; simp; done)) (by simp) (by intro j hj; match j, hj with | 0, _ => exact ⟨by simp [hget], rfl⟩) ?_
          rintro _ _ ⟨mid, hp, y2, rfl, rfl, p1, m1, m2, h1, h2⟩
          have I := I.turn hO hB p1
          have hy2 := I.ps.len
          obtain ⟨q, hq⟩ : ∃ q, q = len / 8 := ⟨_, rfl⟩
          have w7 : IntKind.i64.wrap ((mid : Int) - (a : Int)) = (mid : Int) - (a : Int) := by rw [wrap_in (by omega)]
          have w8 : IntKind.i64.wrap ((b : Int) - (mid : Int)) = (b : Int) - (mid : Int) := by rw [wrap_in (by omega)]
          have w9 : (len : Int).tdiv 8 = (q : Int) := by rw [Int.tdiv_eq_ediv_of_nonneg (by omega)]; omega
          have w10 : IntKind.i64.wrap (q : Int) = (q : Int) := by rw [wrap_in (by omega)]
          have w11 : IntKind.i64.wrap ((mid : Int) + 1) = ((mid + 1 : Nat) : Int) := by rw [wrap_in (by omega)]; omega
          by_cases hc : (mid : Int) - (a : Int) < (b : Int) - (mid : Int)
          · have hr := ih (mid - a) (by omega) y2 a mid lm rfl m1 (by omega) (hMy I) (by omega) ((I.ps.perm.nodup_iff).2 hnd) hlm3 (I.sb.sub hO (by omega))
            rw [hy2] at hr
            simp (maxSteps := 2000000) -implicitDefEqProofs only [zz, zE, evop, ev, ofVal, tget, tput, ok, V.isUndef, intBin, guardOf, initT, Ch.on, calleeOf, withArgs, told, xport, xports, tids, tidss, hget, hput, Blk.ice, freeze, V.cells, D.cells, V.isAgg, V.one, V.clo, clos, V.toD, loadD, structAt, eqCells, D.scalarEq, sliceOf, partsD, partsV, bound, isPtr, Blk.width, elems, lenOf, splice, D.over, resOf, resV, resVs, ↓reduceIte, reduceCtorEq, ↓reduceDIte, Nat.reduceLT, Nat.reduceEqDiff, Nat.reduceAdd, Nat.reduceSub, Nat.reduceMul, Nat.reduceLeDiff, Nat.reduceBEq, Nat.reduceBNe, Int.reduceNeg, Int.reduceAdd, Int.reduceSub, Int.reduceToNat, nilTest, shiftH, Blk.ren, V.ren, renL, initV, frameH, putL, frρ, dI, finN_ret, finN_normal, cutK_normal, cutK_ret, cutK_exit, w7, w8, w9, w10, hc]
            refine ⟨by omega, ?_⟩
            refine acall_refN [0] (hr) (by first | rfl | simp [renL, V.ren, frρ, renL_ds]) (by simp) rfl (by first | (rintro _ _ ⟨_, rfl, rfl, _⟩; simp; done) | (rintro _ _ ⟨_, _, rfl, rfl, _⟩; simp; done) | (rintro _ _ ⟨_, _, _, rfl, rfl, _⟩; simp; done) | (rintro _ _ ⟨_, _, _, rfl, rfl⟩; simp; done)) (by simp) (by intro j hj; match j, hj with | 0, _ => exact ⟨by simp [hget], rfl⟩) ?_
            rintro _ _ ⟨y3, rfl, rfl, p3, s3⟩
            simp (maxSteps := 2000000) -implicitDefEqProofs only [zz, zE, evop, ev, ofVal, tget, tput, ok, V.isUndef, intBin, guardOf, initT, Ch.on, calleeOf, withArgs, told, xport, xports, tids, tidss, hget, hput, Blk.ice, freeze, V.cells, D.cells, V.isAgg, V.one, V.clo, clos, V.toD, loadD, structAt, eqCells, D.scalarEq, sliceOf, partsD, partsV, bound, isPtr, Blk.width, elems, lenOf, splice, D.over, resOf, resV, resVs, ↓reduceIte, reduceCtorEq, ↓reduceDIte, Nat.reduceLT, Nat.reduceEqDiff, Nat.reduceAdd, Nat.reduceSub, Nat.reduceMul, Nat.reduceLeDiff, Nat.reduceBEq, Nat.reduceBNe, Int.reduceNeg, Int.reduceAdd, Int.reduceSub, Int.reduceToNat, nilTest, shiftH, Blk.ren, V.ren, renL, initV, frameH, putL, frρ, dI, finN_ret, finN_normal, cutK_normal, cutK_ret, cutK_exit, w11]
            exact ⟨(mid + 1, b, lm, decide ((mid : Int) - (a : Int) ≥ (q : Int)), hp, y3), ⟨hlm3, Stp.left hO hnd hB I m1 m2 h1 h2 p3 s3⟩, by simp only; omega, Weak.trimsM 1 (by simp) rfl (by simp [tget, V.lower, lowerL, lowerL_ds]) (by simp [Blk.lower])⟩
          · have hr := ih (b - (mid + 1)) (by omega) y2 (mid + 1) b lm rfl (by omega) (by omega) (hMy I) (by omega) ((I.ps.perm.nodup_iff).2 hnd) hlm3 (SB.right0 hO ((I.ps.perm.nodup_iff).2 hnd) (by omega) m1 m2 h2)
            rw [hy2] at hr
            simp (maxSteps := 2000000) -implicitDefEqProofs only [zz, zE, evop, ev, ofVal, tget, tput, ok, V.isUndef, intBin, guardOf, initT, Ch.on, calleeOf, withArgs, told, xport, xports, tids, tidss, hget, hput, Blk.ice, freeze, V.cells, D.cells, V.isAgg, V.one, V.clo, clos, V.toD, loadD, structAt, eqCells, D.scalarEq, sliceOf, partsD, partsV, bound, isPtr, Blk.width, elems, lenOf, splice, D.over, resOf, resV, resVs, ↓reduceIte, reduceCtorEq, ↓reduceDIte, Nat.reduceLT, Nat.reduceEqDiff, Nat.reduceAdd, Nat.reduceSub, Nat.reduceMul, Nat.reduceLeDiff, Nat.reduceBEq, Nat.reduceBNe, Int.reduceNeg, Int.reduceAdd, Int.reduceSub, Int.reduceToNat, nilTest, shiftH, Blk.ren, V.ren, renL, initV, frameH, putL, frρ, dI, finN_ret, finN_normal, cutK_normal, cutK_ret, cutK_exit, w7, w8, w9, w10, w11, hc]
            refine ⟨by omega, ?_⟩
            refine acall_refN [0] (hr) (by first | rfl | simp [renL, V.ren, frρ, renL_ds]) (by simp) rfl (by first | (rintro _ _ ⟨_, rfl, rfl, _⟩; simp; done) | (rintro _ _ ⟨_, _, rfl, rfl, _⟩; simp; done) | (rintro _ _ ⟨_, _, _, rfl, rfl, _⟩; simp; done) | (rintro _ _ ⟨_, _, _, rfl, rfl⟩; simp; done)) (by simp) (by intro j hj; match j, hj with | 0, _ => exact ⟨by simp [hget], rfl⟩) ?_
            rintro _ _ ⟨y3, rfl, rfl, p3, s3⟩
            simp (maxSteps := 2000000) -implicitDefEqProofs only [zz, zE, evop, ev, ofVal, tget, tput, ok, V.isUndef, intBin, guardOf, initT, Ch.on, calleeOf, withArgs, told, xport, xports, tids, tidss, hget, hput, Blk.ice, freeze, V.cells, D.cells, V.isAgg, V.one, V.clo, clos, V.toD, loadD, structAt, eqCells, D.scalarEq, sliceOf, partsD, partsV, bound, isPtr, Blk.width, elems, lenOf, splice, D.over, resOf, resV, resVs, ↓reduceIte, reduceCtorEq, ↓reduceDIte, Nat.reduceLT, Nat.reduceEqDiff, Nat.reduceAdd, Nat.reduceSub, Nat.reduceMul, Nat.reduceLeDiff, Nat.reduceBEq, Nat.reduceBNe, Int.reduceNeg, Int.reduceAdd, Int.reduceSub, Int.reduceToNat, nilTest, shiftH, Blk.ren, V.ren, renL, initV, frameH, putL, frρ, dI, finN_ret, finN_normal, cutK_normal, cutK_ret, cutK_exit]
            exact ⟨(a, mid, lm, decide ((b : Int) - (mid : Int) ≥ (q : Int)), hp, y3), ⟨hlm3, Stp.right hO hnd hB I m1 m2 h1 h2 p3 s3⟩, by simp only; omega, Weak.trimsM 1 (by simp) rfl (by simp [tget, V.lower, lowerL, lowerL_ds]) (by simp [Blk.lower])⟩
end
end Go.Proofs.Ythpapgbpmkgfeaa.AM

/- cmp.Compare. -/
set_option linter.all false
set_option maxRecDepth 100000
set_option maxHeartbeats 4000000
namespace Go.Proofs.Ythpapgbpmkgfeaa.AM
open Go Go.RowKit

def cmpI (a b : Int) : Int := if a < b then -1 else if b < a then 1 else 0

theorem c_Compare (a b : Int) : CSpec Try.prog 58 [.int .i64 a, .int .i64 b] (.int .i64 (cmpI a b)) := by
  refine CSpec.of_awp envOf_ok hmix Try.func58 rfl (fun args w => Try.call58 args w) (by simp [Try.f58]) ?_
  simp only [Try.f58]
  simp (maxSteps := 2000000) -implicitDefEqProofs only [zz, zE, evop, ev, ofVal, tget, tput, ok, V.isUndef, intBin, guardOf, initT, Ch.on, calleeOf, withArgs, told, xport, xports, tids, tidss, hget, hput, Blk.ice, freeze, V.cells, D.cells, V.isAgg, V.one, V.clo, clos, V.toD, loadD, structAt, eqCells, D.scalarEq, sliceOf, partsD, partsV, bound, isPtr, Blk.width, elems, lenOf, splice, D.over, resOf, resV, resVs, ↓reduceIte, reduceCtorEq, ↓reduceDIte, Nat.reduceLT, Nat.reduceEqDiff, Nat.reduceAdd, Nat.reduceSub, Nat.reduceMul, Nat.reduceLeDiff, Nat.reduceBEq, Nat.reduceBNe, Int.reduceNeg, Int.reduceAdd, Int.reduceSub, Int.reduceToNat, nilTest, shiftH, Blk.ren, V.ren, renL, initV, frameH, putL, frρ, dI, dW]
  refine acall_flat (by first | rfl | (simp only [xports, xport, hget]; rfl)) (c_isNaN _) rfl ?_
  try simp (maxSteps := 2000000) -implicitDefEqProofs only [zz, zE, evop, ev, ofVal, tget, tput, ok, V.isUndef, intBin, guardOf, initT, Ch.on, calleeOf, withArgs, told, xport, xports, tids, tidss, hget, hput, Blk.ice, freeze, V.cells, D.cells, V.isAgg, V.one, V.clo, clos, V.toD, loadD, structAt, eqCells, D.scalarEq, sliceOf, partsD, partsV, bound, isPtr, Blk.width, elems, lenOf, splice, D.over, resOf, resV, resVs, ↓reduceIte, reduceCtorEq, ↓reduceDIte, Nat.reduceLT, Nat.reduceEqDiff, Nat.reduceAdd, Nat.reduceSub, Nat.reduceMul, Nat.reduceLeDiff, Nat.reduceBEq, Nat.reduceBNe, Int.reduceNeg, Int.reduceAdd, Int.reduceSub, Int.reduceToNat, nilTest, shiftH, Blk.ren, V.ren, renL, initV, frameH, putL, frρ, dI, dW]
  refine acall_flat (by first | rfl | (simp only [xports, xport, hget]; rfl)) (c_isNaN _) rfl ?_
  try simp (maxSteps := 2000000) -implicitDefEqProofs only [zz, zE, evop, ev, ofVal, tget, tput, ok, V.isUndef, intBin, guardOf, initT, Ch.on, calleeOf, withArgs, told, xport, xports, tids, tidss, hget, hput, Blk.ice, freeze, V.cells, D.cells, V.isAgg, V.one, V.clo, clos, V.toD, loadD, structAt, eqCells, D.scalarEq, sliceOf, partsD, partsV, bound, isPtr, Blk.width, elems, lenOf, splice, D.over, resOf, resV, resVs, ↓reduceIte, reduceCtorEq, ↓reduceDIte, Nat.reduceLT, Nat.reduceEqDiff, Nat.reduceAdd, Nat.reduceSub, Nat.reduceMul, Nat.reduceLeDiff, Nat.reduceBEq, Nat.reduceBNe, Int.reduceNeg, Int.reduceAdd, Int.reduceSub, Int.reduceToNat, nilTest, shiftH, Blk.ren, V.ren, renL, initV, frameH, putL, frρ, dI, dW]
  unfold cmpI
  split
  · simp_all
  · split <;> simp_all


end Go.Proofs.Ythpapgbpmkgfeaa.AM

/- What is due. -/
set_option linter.all false
set_option maxRecDepth 100000
set_option maxHeartbeats 4000000
namespace Go.Proofs.Ythpapgbpmkgfeaa.AM
open Go Go.RowKit

theorem c_Or2 (a b : Int) : CSpec Try.prog 80 [.vec [.int .i64 a, .int .i64 b]] (.int .i64 (if a = 0 then b else a)) := by
  refine CSpec.of_awp envOf_ok hmix Try.func80 rfl (fun args w => Try.call80 args w) (by simp [Try.f80]) ?_
  simp only [Try.f80]
  simp (maxSteps := 2000000) -implicitDefEqProofs only [zz, zE, evop, ev, ofVal, tget, tput, ok, V.isUndef, intBin, guardOf, initT, Ch.on, calleeOf, withArgs, told, xport, xports, tids, tidss, hget, hput, Blk.ice, freeze, V.cells, D.cells, V.isAgg, V.one, V.clo, clos, V.toD, loadD, structAt, eqCells, D.scalarEq, sliceOf, partsD, partsV, bound, isPtr, Blk.width, elems, lenOf, splice, D.over, resOf, resV, resVs, ↓reduceIte, reduceCtorEq, ↓reduceDIte, Nat.reduceLT, Nat.reduceEqDiff, Nat.reduceAdd, Nat.reduceSub, Nat.reduceMul, Nat.reduceLeDiff, Nat.reduceBEq, Nat.reduceBNe, Int.reduceNeg, Int.reduceAdd, Int.reduceSub, Int.reduceToNat, nilTest, shiftH, Blk.ren, V.ren, renL, initV, frameH, putL, frρ, dI, dW]
  refine wloop_count 2 (fun i => [(8, .d (.int .i64 i)), (7, .d (.int .i64 2)), (6, .d (.vec [.int .i64 a, .int .i64 b])), (3, .d (.int .i64 0)), (2, .d (.int .i64 0))]) (fun _ => []) (fun i => (1 ≤ i → a = 0) ∧ (2 ≤ i → b = 0)) ⟨fun h => by omega, fun h => by omega⟩ (Weak.sub (by simp [tget])) (fun i hi hI => ?_) (fun hI => ?_)
  · have e0 : ((0 : Nat) : Int) = 0 := rfl
    have e1 : ((1 : Nat) : Int) = 1 := rfl
    have w0 : IntKind.i64.wrap 1 = 1 := wrap_in (by omega)
    have w1 : IntKind.i64.wrap 2 = 2 := wrap_in (by omega)
    obtain rfl | rfl : i = 0 ∨ i = 1 := by omega
    · simp (maxSteps := 2000000) -implicitDefEqProofs only [zz, zE, evop, ev, ofVal, tget, tput, ok, V.isUndef, intBin, guardOf, initT, Ch.on, calleeOf, withArgs, told, xport, xports, tids, tidss, hget, hput, Blk.ice, freeze, V.cells, D.cells, V.isAgg, V.one, V.clo, clos, V.toD, loadD, structAt, eqCells, D.scalarEq, sliceOf, partsD, partsV, bound, isPtr, Blk.width, elems, lenOf, splice, D.over, resOf, resV, resVs, ↓reduceIte, reduceCtorEq, ↓reduceDIte, Nat.reduceLT, Nat.reduceEqDiff, Nat.reduceAdd, Nat.reduceSub, Nat.reduceMul, Nat.reduceLeDiff, Nat.reduceBEq, Nat.reduceBNe, Int.reduceNeg, Int.reduceAdd, Int.reduceSub, Int.reduceToNat, nilTest, shiftH, Blk.ren, V.ren, renL, initV, frameH, putL, frρ, dI, dW, e0, w0, Int.reduceLT, Int.reduceLE]
      split
      · rename_i h
        simp at h
        simp [h]
      · rename_i h
        simp at h
        exact ⟨by simp [h], Weak.sub (by simp [tget, w0])⟩
    · simp (maxSteps := 2000000) -implicitDefEqProofs only [zz, zE, evop, ev, ofVal, tget, tput, ok, V.isUndef, intBin, guardOf, initT, Ch.on, calleeOf, withArgs, told, xport, xports, tids, tidss, hget, hput, Blk.ice, freeze, V.cells, D.cells, V.isAgg, V.one, V.clo, clos, V.toD, loadD, structAt, eqCells, D.scalarEq, sliceOf, partsD, partsV, bound, isPtr, Blk.width, elems, lenOf, splice, D.over, resOf, resV, resVs, ↓reduceIte, reduceCtorEq, ↓reduceDIte, Nat.reduceLT, Nat.reduceEqDiff, Nat.reduceAdd, Nat.reduceSub, Nat.reduceMul, Nat.reduceLeDiff, Nat.reduceBEq, Nat.reduceBNe, Int.reduceNeg, Int.reduceAdd, Int.reduceSub, Int.reduceToNat, nilTest, shiftH, Blk.ren, V.ren, renL, initV, frameH, putL, frρ, dI, dW, e1, w1, Int.reduceLT, Int.reduceLE]
      have ha := hI.1 (Nat.le_refl _)
      split
      · rename_i h
        simp [ha]
      · rename_i h
        simp at h
        exact ⟨by simp [ha, h], Weak.sub (by simp [tget, w1])⟩
  · have e2 : ((2 : Nat) : Int) = 2 := rfl
    simp (maxSteps := 2000000) -implicitDefEqProofs only [zz, zE, evop, ev, ofVal, tget, tput, ok, V.isUndef, intBin, guardOf, initT, Ch.on, calleeOf, withArgs, told, xport, xports, tids, tidss, hget, hput, Blk.ice, freeze, V.cells, D.cells, V.isAgg, V.one, V.clo, clos, V.toD, loadD, structAt, eqCells, D.scalarEq, sliceOf, partsD, partsV, bound, isPtr, Blk.width, elems, lenOf, splice, D.over, resOf, resV, resVs, ↓reduceIte, reduceCtorEq, ↓reduceDIte, Nat.reduceLT, Nat.reduceEqDiff, Nat.reduceAdd, Nat.reduceSub, Nat.reduceMul, Nat.reduceLeDiff, Nat.reduceBEq, Nat.reduceBNe, Int.reduceNeg, Int.reduceAdd, Int.reduceSub, Int.reduceToNat, nilTest, shiftH, Blk.ren, V.ren, renL, initV, frameH, putL, frρ, dI, dW, e2, Int.reduceLT]
    have ha := hI.1 (by omega)
    have hb := hI.2 (by omega)
    simp [ha, hb]

/-- By their times, and by their places. -/
def aheadC (ts : List Int) (a b : Int) : Int := if cmpI (ts.getD a.toNat 0) (ts.getD b.toNat 0) = 0 then cmpI a b else cmpI (ts.getD a.toNat 0) (ts.getD b.toNat 0)

theorem c_ahead (ts : List Int) (a b : Nat) (ha : a < ts.length) (hb : b < ts.length) : CSpec Try.prog 67 [.vec (ts.map dI), .int .i64 a, .int .i64 b] (.int .i64 (aheadC ts a b)) := by
  refine CSpec.of_awp envOf_ok hmix Try.func67 rfl (fun args w => Try.call67 args w) (by simp [Try.f67]) ?_
  simp only [Try.f67]
  simp (maxSteps := 2000000) -implicitDefEqProofs only [zz, zE, evop, ev, ofVal, tget, tput, ok, V.isUndef, intBin, guardOf, initT, Ch.on, calleeOf, withArgs, told, xport, xports, tids, tidss, hget, hput, Blk.ice, freeze, V.cells, D.cells, V.isAgg, V.one, V.clo, clos, V.toD, loadD, structAt, eqCells, D.scalarEq, sliceOf, partsD, partsV, bound, isPtr, Blk.width, elems, lenOf, splice, D.over, resOf, resV, resVs, ↓reduceIte, reduceCtorEq, ↓reduceDIte, Nat.reduceLT, Nat.reduceEqDiff, Nat.reduceAdd, Nat.reduceSub, Nat.reduceMul, Nat.reduceLeDiff, Nat.reduceBEq, Nat.reduceBNe, Int.reduceNeg, Int.reduceAdd, Int.reduceSub, Int.reduceToNat, nilTest, shiftH, Blk.ren, V.ren, renL, initV, frameH, putL, frρ, dI, dW]
  have hx : ts[a]? = some ts[a] := List.getElem?_eq_getElem ha
  have hy : ts[b]? = some ts[b] := List.getElem?_eq_getElem hb
  refine wdraw_plan [⟨[], false, [8, 11, 12, 13, 14, 16, 17], [], false⟩, ⟨[], false, [7, 11, 12, 13, 14, 16, 17], [0], false⟩, ⟨[0, 1], false, [11, 12, 13, 14, 16, 17], [], false⟩, ⟨[0, 1, 2], false, [11, 12, 13, 14, 16, 17], [], false⟩, ⟨[], false, [7, 8, 9, 10, 12, 16, 17], [0, 1, 2, 3], false⟩, ⟨[], false, [7, 8, 9, 10, 11, 16, 17], [0, 1, 2, 3, 4], false⟩, ⟨[4, 5], false, [7, 8, 9, 10, 16, 17], [0, 1, 2, 3], false⟩, ⟨[4, 5, 6], false, [7, 8, 9, 10, 16, 17], [0, 1, 2, 3], false⟩, ⟨[0, 1, 2, 3, 4, 5, 6, 7], false, [16, 17], [], false⟩, ⟨[], false, [7, 8, 9, 10, 11, 12, 13, 14, 15, 17], [0, 1, 2, 3, 4, 5, 6, 7, 8], false⟩, ⟨[], false, [7, 8, 9, 10, 11, 12, 13, 14, 15, 16], [0, 1, 2, 3, 4, 5, 6, 7, 8, 9], false⟩, ⟨[0, 1, 2, 3, 4, 5, 6, 7, 8, 9, 10], true, [], [], false⟩, ⟨[0, 1, 2, 3, 4, 5, 6, 7, 8, 9, 10, 11], true, [], [], false⟩, ⟨[0, 1, 2, 3, 4, 5, 6, 7, 8, 9, 10, 11, 12], true, [], [], false⟩, ⟨[0, 1, 2, 3, 4, 5, 6, 7, 8, 9, 10, 11, 12, 13], true, [], [], false⟩] (by decide) ?_
  simp (maxSteps := 2000000) -implicitDefEqProofs only [zz, zE, evop, ev, ofVal, tget, tput, ok, V.isUndef, intBin, guardOf, initT, Ch.on, calleeOf, withArgs, told, xport, xports, tids, tidss, hget, hput, Blk.ice, freeze, V.cells, D.cells, V.isAgg, V.one, V.clo, clos, V.toD, loadD, structAt, eqCells, D.scalarEq, sliceOf, partsD, partsV, bound, isPtr, Blk.width, elems, lenOf, splice, D.over, resOf, resV, resVs, ↓reduceIte, reduceCtorEq, ↓reduceDIte, Nat.reduceLT, Nat.reduceEqDiff, Nat.reduceAdd, Nat.reduceSub, Nat.reduceMul, Nat.reduceLeDiff, Nat.reduceBEq, Nat.reduceBNe, Int.reduceNeg, Int.reduceAdd, Int.reduceSub, Int.reduceToNat, nilTest, shiftH, Blk.ren, V.ren, renL, initV, frameH, putL, frρ, dI, dW, List.getElem?_map, hx, hy, Option.map_some, Int.natCast_nonneg]
  refine dcall_flat (by first | rfl | (simp only [xports, xport, hget]; rfl)) (c_Compare _ _) rfl ?_
  try simp (maxSteps := 2000000) -implicitDefEqProofs only [zz, zE, evop, ev, ofVal, tget, tput, ok, V.isUndef, intBin, guardOf, initT, Ch.on, calleeOf, withArgs, told, xport, xports, tids, tidss, hget, hput, Blk.ice, freeze, V.cells, D.cells, V.isAgg, V.one, V.clo, clos, V.toD, loadD, structAt, eqCells, D.scalarEq, sliceOf, partsD, partsV, bound, isPtr, Blk.width, elems, lenOf, splice, D.over, resOf, resV, resVs, ↓reduceIte, reduceCtorEq, ↓reduceDIte, Nat.reduceLT, Nat.reduceEqDiff, Nat.reduceAdd, Nat.reduceSub, Nat.reduceMul, Nat.reduceLeDiff, Nat.reduceBEq, Nat.reduceBNe, Int.reduceNeg, Int.reduceAdd, Int.reduceSub, Int.reduceToNat, nilTest, shiftH, Blk.ren, V.ren, renL, initV, frameH, putL, frρ, dI, dW]
  refine acall_flat (by first | rfl | (simp only [xports, xport, hget]; rfl)) (c_Compare _ _) rfl ?_
  try simp (maxSteps := 2000000) -implicitDefEqProofs only [zz, zE, evop, ev, ofVal, tget, tput, ok, V.isUndef, intBin, guardOf, initT, Ch.on, calleeOf, withArgs, told, xport, xports, tids, tidss, hget, hput, Blk.ice, freeze, V.cells, D.cells, V.isAgg, V.one, V.clo, clos, V.toD, loadD, structAt, eqCells, D.scalarEq, sliceOf, partsD, partsV, bound, isPtr, Blk.width, elems, lenOf, splice, D.over, resOf, resV, resVs, ↓reduceIte, reduceCtorEq, ↓reduceDIte, Nat.reduceLT, Nat.reduceEqDiff, Nat.reduceAdd, Nat.reduceSub, Nat.reduceMul, Nat.reduceLeDiff, Nat.reduceBEq, Nat.reduceBNe, Int.reduceNeg, Int.reduceAdd, Int.reduceSub, Int.reduceToNat, nilTest, shiftH, Blk.ren, V.ren, renL, initV, frameH, putL, frρ, dI, dW]
  refine acall_ice (by first | rfl | (simp only [xports, xport, hget]; rfl)) (c_Or2 _ _) ?_
  try simp (maxSteps := 2000000) -implicitDefEqProofs only [zz, zE, evop, ev, ofVal, tget, tput, ok, V.isUndef, intBin, guardOf, initT, Ch.on, calleeOf, withArgs, told, xport, xports, tids, tidss, hget, hput, Blk.ice, freeze, V.cells, D.cells, V.isAgg, V.one, V.clo, clos, V.toD, loadD, structAt, eqCells, D.scalarEq, sliceOf, partsD, partsV, bound, isPtr, Blk.width, elems, lenOf, splice, D.over, resOf, resV, resVs, ↓reduceIte, reduceCtorEq, ↓reduceDIte, Nat.reduceLT, Nat.reduceEqDiff, Nat.reduceAdd, Nat.reduceSub, Nat.reduceMul, Nat.reduceLeDiff, Nat.reduceBEq, Nat.reduceBNe, Int.reduceNeg, Int.reduceAdd, Int.reduceSub, Int.reduceToNat, nilTest, shiftH, Blk.ren, V.ren, renL, initV, frameH, putL, frρ, dI, dW]
  unfold aheadC
  simp [List.getD_eq_getElem?_getD, hx, hy]

end Go.Proofs.Ythpapgbpmkgfeaa.AM

/- What is due (few). -/
set_option linter.all false
set_option maxRecDepth 100000
set_option maxHeartbeats 4000000
namespace Go.Proofs.Ythpapgbpmkgfeaa.AM
open Go Go.RowKit

def dueB (now n : Int) : Bool := tickR n && decide (n ≤ now)
/-- The places of those that are due, among the first k. -/
def dueIx (now : Int) (ts : List Int) : Nat → List Int
  | 0 => []
  | k + 1 => if dueB now (ts.getD k 0) = true then dueIx now ts k ++ [(k : Int)] else dueIx now ts k
def tickDue (now : Int) (ts : List Int) : List Int := isort (fun x y => decide (aheadC ts x y < 0)) (dueIx now ts ts.length)

theorem dueIx_len (now : Int) (ts : List Int) : ∀ k, (dueIx now ts k).length ≤ k
  | 0 => by simp [dueIx]
  | k + 1 => by
    have := dueIx_len now ts k
    simp only [dueIx]; split
    · simp; omega
    · omega

theorem dueIx_mem {now : Int} {ts : List Int} {x : Int} : ∀ {k : Nat}, x ∈ dueIx now ts k → ∃ j : Nat, x = j ∧ j < k
  | 0, h => by simp [dueIx] at h
  | k + 1, h => by
    simp only [dueIx] at h
    split at h
    · rw [List.mem_append] at h
      rcases h with h | h
      · obtain ⟨j, h1, h2⟩ := dueIx_mem h; exact ⟨j, h1, by omega⟩
      · simp at h; exact ⟨k, h, by omega⟩
    · obtain ⟨j, h1, h2⟩ := dueIx_mem h; exact ⟨j, h1, by omega⟩

theorem o_Due (now : Int) (ts : List Int) (hl : ts.length ≤ 1000000) (h12 : (dueIx now ts ts.length).length ≤ 12) : FSpec Try.prog 43 [.int .i64 now, .vec (ts.map dI)] (.own 0 0 (tickDue now ts).length) [.dat false 1 ((tickDue now ts).map dI)] := by
  refine FSpec.of_awp envOf_ok hmix Try.func43 rfl (fun args w => Try.call43 args w) (by simp [Try.f43]) ?_
  simp only [Try.f43]
  simp (maxSteps := 2000000) -implicitDefEqProofs only [zz, zE, evop, ev, ofVal, tget, tput, ok, V.isUndef, intBin, guardOf, initT, Ch.on, calleeOf, withArgs, told, xport, xports, tids, tidss, hget, hput, Blk.ice, freeze, V.cells, D.cells, V.isAgg, V.one, V.clo, clos, V.toD, loadD, structAt, eqCells, D.scalarEq, sliceOf, partsD, partsV, bound, isPtr, Blk.width, elems, lenOf, splice, D.over, resOf, resV, resVs, ↓reduceIte, reduceCtorEq, ↓reduceDIte, Nat.reduceLT, Nat.reduceEqDiff, Nat.reduceAdd, Nat.reduceSub, Nat.reduceMul, Nat.reduceLeDiff, Nat.reduceBEq, Nat.reduceBNe, Int.reduceNeg, Int.reduceAdd, Int.reduceSub, Int.reduceToNat, nilTest, shiftH, Blk.ren, V.ren, renL, initV, frameH, putL, frρ, dI, dW]
  refine wloop_count ts.length (fun i => [(10, .d (.int .i64 i)), (9, .d (.int .i64 ts.length)), (8, .d (.vec (ts.map dI))), (5, .own 0 0 (dueIx now ts i).length), (0, .d (.int .i64 now)), (1, .d (.vec (ts.map dI)))]) (fun i => [.dat false 1 ((dueIx now ts i).map dI)]) (fun i => True) trivial ?_ (fun i hi _ => ?_) (fun _ => ?_)
  · refine Weak.pick [7] (by simp) (by simp) rfl (fun q hq => ?_) (fun i hi => ?_)
    · simp only [List.mem_cons, List.not_mem_nil, or_false] at hq
      rcases hq with rfl | rfl | rfl | rfl | rfl | rfl <;> first | exact .same _ | exact .nils 0 1 rfl
    · obtain rfl : i = 0 := by simpa using hi
      exact .virt 1 rfl rfl
  · have hx : ts[i]? = some ts[i] := List.getElem?_eq_getElem hi
    have h' : ((i : Int) < (ts.length : Int)) := by omega
    have hw : IntKind.i64.wrap ((i : Int) + 1) = ((i + 1 : Nat) : Int) := by rw [wrap_in (by omega)]; omega
    simp (maxSteps := 2000000) -implicitDefEqProofs only [zz, zE, evop, ev, ofVal, tget, tput, ok, V.isUndef, intBin, guardOf, initT, Ch.on, calleeOf, withArgs, told, xport, xports, tids, tidss, hget, hput, Blk.ice, freeze, V.cells, D.cells, V.isAgg, V.one, V.clo, clos, V.toD, loadD, structAt, eqCells, D.scalarEq, sliceOf, partsD, partsV, bound, isPtr, Blk.width, elems, lenOf, splice, D.over, resOf, resV, resVs, ↓reduceIte, reduceCtorEq, ↓reduceDIte, Nat.reduceLT, Nat.reduceEqDiff, Nat.reduceAdd, Nat.reduceSub, Nat.reduceMul, Nat.reduceLeDiff, Nat.reduceBEq, Nat.reduceBNe, Int.reduceNeg, Int.reduceAdd, Int.reduceSub, Int.reduceToNat, nilTest, shiftH, Blk.ren, V.ren, renL, initV, frameH, putL, frρ, dI, dW, h', List.getElem?_map, hx, Option.map_some, Int.natCast_nonneg]
    refine acall_flat (by first | rfl | (simp only [xports, xport, hget]; rfl)) (c_tick_Right _) rfl ?_
    try simp (maxSteps := 2000000) -implicitDefEqProofs only [zz, zE, evop, ev, ofVal, tget, tput, ok, V.isUndef, intBin, guardOf, initT, Ch.on, calleeOf, withArgs, told, xport, xports, tids, tidss, hget, hput, Blk.ice, freeze, V.cells, D.cells, V.isAgg, V.one, V.clo, clos, V.toD, loadD, structAt, eqCells, D.scalarEq, sliceOf, partsD, partsV, bound, isPtr, Blk.width, elems, lenOf, splice, D.over, resOf, resV, resVs, ↓reduceIte, reduceCtorEq, ↓reduceDIte, Nat.reduceLT, Nat.reduceEqDiff, Nat.reduceAdd, Nat.reduceSub, Nat.reduceMul, Nat.reduceLeDiff, Nat.reduceBEq, Nat.reduceBNe, Int.reduceNeg, Int.reduceAdd, Int.reduceSub, Int.reduceToNat, nilTest, shiftH, Blk.ren, V.ren, renL, initV, frameH, putL, frρ, dI, dW]
    simp (maxSteps := 2000000) -implicitDefEqProofs only [zz, zE, evop, ev, ofVal, tget, tput, ok, V.isUndef, intBin, guardOf, initT, Ch.on, calleeOf, withArgs, told, xport, xports, tids, tidss, hget, hput, Blk.ice, freeze, V.cells, D.cells, V.isAgg, V.one, V.clo, clos, V.toD, loadD, structAt, eqCells, D.scalarEq, sliceOf, partsD, partsV, bound, isPtr, Blk.width, elems, lenOf, splice, D.over, resOf, resV, resVs, ↓reduceIte, reduceCtorEq, ↓reduceDIte, Nat.reduceLT, Nat.reduceEqDiff, Nat.reduceAdd, Nat.reduceSub, Nat.reduceMul, Nat.reduceLeDiff, Nat.reduceBEq, Nat.reduceBNe, Int.reduceNeg, Int.reduceAdd, Int.reduceSub, Int.reduceToNat, nilTest, shiftH, Blk.ren, V.ren, renL, initV, frameH, putL, frρ, dI, dW, hw]
    have hll := dueIx_len now ts i
    have hd : dueB now (ts.getD i 0) = (tickR ts[i] && decide (ts[i] ≤ now)) := by simp [dueB, List.getD_eq_getElem?_getD, hx]
    have skip : dueB now (ts.getD i 0) = false → dueIx now ts (i + 1) = dueIx now ts i := fun h => by simp only [dueIx, h]; simp
    split
    · rename_i h1
      split
      · rename_i h2
        have e : dueIx now ts (i + 1) = dueIx now ts i ++ [(i : Int)] := by
          have : dueB now (ts.getD i 0) = true := by rw [hd, h1]; simpa using h2
          simp only [dueIx, this, if_true]
        refine ⟨⟨by omega, fun e he => ?_⟩, ?_⟩
        · obtain rfl : e = _ := by simpa using he
          rfl
        · rw [e]
          have e2 : List.take (dueIx now ts i).length (List.map dI (dueIx now ts i)) ++ [D.int IntKind.i64 (i : Int)] = List.map dI (dueIx now ts i ++ [(i : Int)]) := by
            rw [List.take_of_length_le (by simp)]; simp [dI]
          rw [e2]
          refine Weak.pick [2] (by simp) (by simp) rfl (fun q hq => ?_) (fun i hi => ?_)
          · simp only [List.mem_cons, List.not_mem_nil, or_false] at hq
            have e3 : (dueIx now ts i ++ [(i : Int)]).length = (dueIx now ts i).length + 1 := by simp
            rcases hq with rfl | rfl | rfl | rfl | rfl | rfl
            · exact .same _
            · exact .same _
            · exact .same _
            · rw [e3]; exact .same _
            · exact .same _
            · exact .same _
          · obtain rfl : i = 0 := by simpa using hi
            exact .dat false 1 _ rfl rfl
      · rename_i h2
        rw [skip (by rw [hd]; simp at h2; simp; intro _; omega)]
        exact Weak.trims 1 rfl (by simp [tget, V.lower]) (by simp [Blk.lower])
    · rename_i h1
      rw [skip (by rw [hd]; simp at h1; simp [h1])]
      exact Weak.trims 1 rfl (by simp [tget, V.lower]) (by simp [Blk.lower])
  · have h' : ¬ ((ts.length : Int) < (ts.length : Int)) := by omega
    simp (maxSteps := 2000000) -implicitDefEqProofs only [zz, zE, evop, ev, ofVal, tget, tput, ok, V.isUndef, intBin, guardOf, initT, Ch.on, calleeOf, withArgs, told, xport, xports, tids, tidss, hget, hput, Blk.ice, freeze, V.cells, D.cells, V.isAgg, V.one, V.clo, clos, V.toD, loadD, structAt, eqCells, D.scalarEq, sliceOf, partsD, partsV, bound, isPtr, Blk.width, elems, lenOf, splice, D.over, resOf, resV, resVs, ↓reduceIte, reduceCtorEq, ↓reduceDIte, Nat.reduceLT, Nat.reduceEqDiff, Nat.reduceAdd, Nat.reduceSub, Nat.reduceMul, Nat.reduceLeDiff, Nat.reduceBEq, Nat.reduceBNe, Int.reduceNeg, Int.reduceAdd, Int.reduceSub, Int.reduceToNat, nilTest, shiftH, Blk.ren, V.ren, renL, initV, frameH, putL, frρ, dI, dW, h']
    refine acall_ref [0] (r_SortFunc_small (dueIx now ts ts.length) h12 (67, 1) [.vec (ts.map dI)] (by simp) (aheadC ts) (fun x hx y hy => by obtain ⟨i, rfl, hi⟩ := dueIx_mem hx; obtain ⟨j, rfl, hj⟩ := dueIx_mem hy; exact c_ahead ts i j hi hj)) (by first | rfl | simp [renL, V.ren, frρ, renL_ds]) (by simp) rfl (by simp) (by simp) (by intro j hj; match j, hj with | 0, _ => exact ⟨by simp [hget], rfl⟩) ?_
    try simp (maxSteps := 2000000) -implicitDefEqProofs only [zz, zE, evop, ev, ofVal, tget, tput, ok, V.isUndef, intBin, guardOf, initT, Ch.on, calleeOf, withArgs, told, xport, xports, tids, tidss, hget, hput, Blk.ice, freeze, V.cells, D.cells, V.isAgg, V.one, V.clo, clos, V.toD, loadD, structAt, eqCells, D.scalarEq, sliceOf, partsD, partsV, bound, isPtr, Blk.width, elems, lenOf, splice, D.over, resOf, resV, resVs, ↓reduceIte, reduceCtorEq, ↓reduceDIte, Nat.reduceLT, Nat.reduceEqDiff, Nat.reduceAdd, Nat.reduceSub, Nat.reduceMul, Nat.reduceLeDiff, Nat.reduceBEq, Nat.reduceBNe, Int.reduceNeg, Int.reduceAdd, Int.reduceSub, Int.reduceToNat, nilTest, shiftH, Blk.ren, V.ren, renL, initV, frameH, putL, frρ, dI, dW]
    have e : (tickDue now ts).length = (dueIx now ts ts.length).length := by unfold tickDue; rw [isort_length]
    rw [e]
    exact Weak.sub (H := [.dat false 1 ((tickDue now ts).map dI)]) (by simp [tget])

end Go.Proofs.Ythpapgbpmkgfeaa.AM

/- First; the fixed answer of layer 4. -/
set_option linter.all false
set_option maxRecDepth 100000
set_option maxHeartbeats 4000000
namespace Go.Proofs.Ythpapgbpmkgfeaa.AM
open Go Go.RowKit

theorem c_First (ts : List Int) (hl : ts.length ≤ 1000000) (h12 : (dueIx 2147483647 ts ts.length).length ≤ 12) : CSpec Try.prog 44 [.vec (ts.map dI)] (.int .i64 (((tickDue 2147483647 ts)[0]?).getD (-1))) := by
  refine CSpec.of_awp envOf_ok hmix Try.func44 rfl (fun args w => Try.call44 args w) (by simp [Try.f44]) ?_
  simp only [Try.f44]
  simp (maxSteps := 2000000) -implicitDefEqProofs only [zz, zE, evop, ev, ofVal, tget, tput, ok, V.isUndef, intBin, guardOf, initT, Ch.on, calleeOf, withArgs, told, xport, xports, tids, tidss, hget, hput, Blk.ice, freeze, V.cells, D.cells, V.isAgg, V.one, V.clo, clos, V.toD, loadD, structAt, eqCells, D.scalarEq, sliceOf, partsD, partsV, bound, isPtr, Blk.width, elems, lenOf, splice, D.over, resOf, resV, resVs, ↓reduceIte, reduceCtorEq, ↓reduceDIte, Nat.reduceLT, Nat.reduceEqDiff, Nat.reduceAdd, Nat.reduceSub, Nat.reduceMul, Nat.reduceLeDiff, Nat.reduceBEq, Nat.reduceBNe, Int.reduceNeg, Int.reduceAdd, Int.reduceSub, Int.reduceToNat, nilTest, shiftH, Blk.ren, V.ren, renL, initV, frameH, putL, frρ, dI, dW]
  refine acall_own (by first | rfl | (simp only [xports, xport, hget]; rfl)) (o_Due 2147483647 ts hl h12) ?_
  try simp (maxSteps := 2000000) -implicitDefEqProofs only [zz, zE, evop, ev, ofVal, tget, tput, ok, V.isUndef, intBin, guardOf, initT, Ch.on, calleeOf, withArgs, told, xport, xports, tids, tidss, hget, hput, Blk.ice, freeze, V.cells, D.cells, V.isAgg, V.one, V.clo, clos, V.toD, loadD, structAt, eqCells, D.scalarEq, sliceOf, partsD, partsV, bound, isPtr, Blk.width, elems, lenOf, splice, D.over, resOf, resV, resVs, ↓reduceIte, reduceCtorEq, ↓reduceDIte, Nat.reduceLT, Nat.reduceEqDiff, Nat.reduceAdd, Nat.reduceSub, Nat.reduceMul, Nat.reduceLeDiff, Nat.reduceBEq, Nat.reduceBNe, Int.reduceNeg, Int.reduceAdd, Int.reduceSub, Int.reduceToNat, nilTest, shiftH, Blk.ren, V.ren, renL, initV, frameH, putL, frρ, dI, dW]
  rcases hT : tickDue 2147483647 ts with _ | ⟨x, r⟩
  · simp (maxSteps := 2000000) -implicitDefEqProofs only [zz, zE, evop, ev, ofVal, tget, tput, ok, V.isUndef, intBin, guardOf, initT, Ch.on, calleeOf, withArgs, told, xport, xports, tids, tidss, hget, hput, Blk.ice, freeze, V.cells, D.cells, V.isAgg, V.one, V.clo, clos, V.toD, loadD, structAt, eqCells, D.scalarEq, sliceOf, partsD, partsV, bound, isPtr, Blk.width, elems, lenOf, splice, D.over, resOf, resV, resVs, ↓reduceIte, reduceCtorEq, ↓reduceDIte, Nat.reduceLT, Nat.reduceEqDiff, Nat.reduceAdd, Nat.reduceSub, Nat.reduceMul, Nat.reduceLeDiff, Nat.reduceBEq, Nat.reduceBNe, Int.reduceNeg, Int.reduceAdd, Int.reduceSub, Int.reduceToNat, nilTest, shiftH, Blk.ren, V.ren, renL, initV, frameH, putL, frρ, dI, dW, Int.natCast_zero]
  · have hne : (((r.length + 1 : Nat) : Int) == 0) = false := by rw [beq_eq_false_iff_ne]; omega
    simp (maxSteps := 2000000) -implicitDefEqProofs only [zz, zE, evop, ev, ofVal, tget, tput, ok, V.isUndef, intBin, guardOf, initT, Ch.on, calleeOf, withArgs, told, xport, xports, tids, tidss, hget, hput, Blk.ice, freeze, V.cells, D.cells, V.isAgg, V.one, V.clo, clos, V.toD, loadD, structAt, eqCells, D.scalarEq, sliceOf, partsD, partsV, bound, isPtr, Blk.width, elems, lenOf, splice, D.over, resOf, resV, resVs, ↓reduceIte, reduceCtorEq, ↓reduceDIte, Nat.reduceLT, Nat.reduceEqDiff, Nat.reduceAdd, Nat.reduceSub, Nat.reduceMul, Nat.reduceLeDiff, Nat.reduceBEq, Nat.reduceBNe, Int.reduceNeg, Int.reduceAdd, Int.reduceSub, Int.reduceToNat, nilTest, shiftH, Blk.ren, V.ren, renL, initV, frameH, putL, frρ, dI, dW, hne]
    simp


theorem c_Due (now : Int) (ts : List Int) (hl : ts.length ≤ 1000000) (h12 : (dueIx now ts ts.length).length ≤ 12) : CSpec Try.prog 43 [.int .i64 now, .vec (ts.map dI)] (.vec ((tickDue now ts).map dI)) :=
  (o_Due now ts hl h12).cspec (by simp only [xport, hget, List.drop_zero]; rw [List.take_of_length_le (by simp)])

theorem c_Numbers (a b : List Int) (ha : a.length ≤ 1000000) (hb : b.length ≤ 1000000) : CSpec Try.prog 42 [.vec (a.map dI), .vec (b.map dI)] (.bool (decide (a = b))) := by
  refine CSpec.of_awp envOf_ok hmix Try.func42 rfl (fun args w => Try.call42 args w) (by simp [Try.f42]) ?_
  simp only [Try.f42]
  simp (maxSteps := 2000000) -implicitDefEqProofs only [zz, zE, evop, ev, ofVal, tget, tput, ok, V.isUndef, intBin, guardOf, initT, Ch.on, calleeOf, withArgs, told, xport, xports, tids, tidss, hget, hput, Blk.ice, freeze, V.cells, D.cells, V.isAgg, V.one, V.clo, clos, V.toD, loadD, structAt, eqCells, D.scalarEq, sliceOf, partsD, partsV, bound, isPtr, Blk.width, elems, lenOf, splice, D.over, resOf, resV, resVs, ↓reduceIte, reduceCtorEq, ↓reduceDIte, Nat.reduceLT, Nat.reduceEqDiff, Nat.reduceAdd, Nat.reduceSub, Nat.reduceMul, Nat.reduceLeDiff, Nat.reduceBEq, Nat.reduceBNe, Int.reduceNeg, Int.reduceAdd, Int.reduceSub, Int.reduceToNat, nilTest, shiftH, Blk.ren, V.ren, renL, initV, frameH, putL, frρ, dI, dW]
  split
  · rename_i h
    have : a ≠ b := fun e => by subst e; simp at h
    simp [this]
  · rename_i h
    have hab : a.length = b.length := by simp at h; omega
    refine wloop_count a.length (fun i => [(5, .d (.int .i64 i)), (0, .d (.vec (a.map dI))), (1, .d (.vec (b.map dI)))]) (fun _ => []) (fun i => ∀ j < i, a[j]? = b[j]?) (fun j hj => by omega) (Weak.sub (by simp [tget])) (fun i hi hI => ?_) (fun hI => ?_)
    · have hx : a[i]? = some a[i] := List.getElem?_eq_getElem hi
      have hy : b[i]? = some b[i] := List.getElem?_eq_getElem (by omega)
      have h' : ((i : Int) < (a.length : Int)) := by omega
      simp (maxSteps := 2000000) -implicitDefEqProofs only [zz, zE, evop, ev, ofVal, tget, tput, ok, V.isUndef, intBin, guardOf, initT, Ch.on, calleeOf, withArgs, told, xport, xports, tids, tidss, hget, hput, Blk.ice, freeze, V.cells, D.cells, V.isAgg, V.one, V.clo, clos, V.toD, loadD, structAt, eqCells, D.scalarEq, sliceOf, partsD, partsV, bound, isPtr, Blk.width, elems, lenOf, splice, D.over, resOf, resV, resVs, ↓reduceIte, reduceCtorEq, ↓reduceDIte, Nat.reduceLT, Nat.reduceEqDiff, Nat.reduceAdd, Nat.reduceSub, Nat.reduceMul, Nat.reduceLeDiff, Nat.reduceBEq, Nat.reduceBNe, Int.reduceNeg, Int.reduceAdd, Int.reduceSub, Int.reduceToNat, nilTest, shiftH, Blk.ren, V.ren, renL, initV, frameH, putL, frρ, dI, dW, h', List.getElem?_map, hx, hy, Option.map_some]
      refine wdraw_plan [⟨[], false, [18, 21, 22, 23, 24], [], false⟩, ⟨[], false, [17, 21, 22, 23, 24], [0], false⟩, ⟨[0, 1], false, [21, 22, 23, 24], [], false⟩, ⟨[0, 1, 2], false, [21, 22, 23, 24], [], false⟩, ⟨[], false, [17, 18, 19, 20, 22], [0, 1, 2, 3], false⟩, ⟨[], false, [17, 18, 19, 20, 21], [0, 1, 2, 3, 4], false⟩, ⟨[4, 5], false, [17, 18, 19, 20], [0, 1, 2, 3], false⟩, ⟨[4, 5, 6], false, [17, 18, 19, 20], [0, 1, 2, 3], false⟩, ⟨[0, 1, 2, 3, 4, 5, 6, 7], true, [], [], false⟩] (by decide) ?_
      simp (maxSteps := 2000000) -implicitDefEqProofs only [zz, zE, evop, ev, ofVal, tget, tput, ok, V.isUndef, intBin, guardOf, initT, Ch.on, calleeOf, withArgs, told, xport, xports, tids, tidss, hget, hput, Blk.ice, freeze, V.cells, D.cells, V.isAgg, V.one, V.clo, clos, V.toD, loadD, structAt, eqCells, D.scalarEq, sliceOf, partsD, partsV, bound, isPtr, Blk.width, elems, lenOf, splice, D.over, resOf, resV, resVs, ↓reduceIte, reduceCtorEq, ↓reduceDIte, Nat.reduceLT, Nat.reduceEqDiff, Nat.reduceAdd, Nat.reduceSub, Nat.reduceMul, Nat.reduceLeDiff, Nat.reduceBEq, Nat.reduceBNe, Int.reduceNeg, Int.reduceAdd, Int.reduceSub, Int.reduceToNat, nilTest, shiftH, Blk.ren, V.ren, renL, initV, frameH, putL, frρ, dI, dW, h', List.getElem?_map, hx, hy, Option.map_some, Int.natCast_nonneg]
      have hw : IntKind.i64.wrap ((i : Int) + 1) = ((i + 1 : Nat) : Int) := by rw [wrap_in (by omega)]; omega
      split
      · rename_i hne
        have : a ≠ b := fun e => by subst e; simp at hne
        simp [this]
      · rename_i heq
        have heq' : a[i] = b[i] := by simpa using heq
        refine ⟨fun j hj => ?_, Weak.trims 0 rfl (by simp [tget, hw, V.lower]) (by simp)⟩
        by_cases e : j = i
        · subst e; rw [hx, hy, heq']
        · exact hI j (by omega)
    · have h' : ¬ ((a.length : Int) < (a.length : Int)) := by omega
      simp (maxSteps := 2000000) -implicitDefEqProofs only [zz, zE, evop, ev, ofVal, tget, tput, ok, V.isUndef, intBin, guardOf, initT, Ch.on, calleeOf, withArgs, told, xport, xports, tids, tidss, hget, hput, Blk.ice, freeze, V.cells, D.cells, V.isAgg, V.one, V.clo, clos, V.toD, loadD, structAt, eqCells, D.scalarEq, sliceOf, partsD, partsV, bound, isPtr, Blk.width, elems, lenOf, splice, D.over, resOf, resV, resVs, ↓reduceIte, reduceCtorEq, ↓reduceDIte, Nat.reduceLT, Nat.reduceEqDiff, Nat.reduceAdd, Nat.reduceSub, Nat.reduceMul, Nat.reduceLeDiff, Nat.reduceBEq, Nat.reduceBNe, Int.reduceNeg, Int.reduceAdd, Int.reduceSub, Int.reduceToNat, nilTest, shiftH, Blk.ren, V.ren, renL, initV, frameH, putL, frρ, dI, dW, h']
      have : a = b := List.ext_getElem? (fun j => by
        rcases Nat.lt_or_ge j a.length with h | h
        · exact hI j h
        · rw [List.getElem?_eq_none h, List.getElem?_eq_none (by omega)])
      simp [this]

end Go.Proofs.Ythpapgbpmkgfeaa.AM

/- What is due, of any number of times; the first one. -/
set_option linter.all false
set_option maxRecDepth 100000
set_option maxHeartbeats 4000000
namespace Go.Proofs.Ythpapgbpmkgfeaa.AM
open Go Go.RowKit

section
variable {f : Nat × Nat} {cap : List D} {c : Int → Int → Int} {M : Int → Prop} (hC : CmpC f cap c M) (hO : Ord c)
include hC hO
theorem r_SortFunc (ns : List Int) (hM : ∀ z ∈ ns, M z) (hl : ns.length ≤ 1000000) (hnd : ns.Nodup) :
    RSpec Try.prog 66 [.own 0 0 ns.length, .func f (cap.map V.d)] [.dat false 1 (ns.map dI)] (.tuple []) [.dat false 1 ((isort (fun x y => decide (c x y < 0)) ns).map dI)] := by
  have hn : NSpec Try.prog 66 [.own 0 0 ns.length, .func f (cap.map V.d)] [.dat false 1 (ns.map dI)] (OutL (fun zs' => PS 0 ns.length ns zs' ∧ SoIn c 0 ns.length zs')) := by
    refine NSpec.of_awp envOf_ok hmix Try.func66 rfl (fun args w => Try.call66 args w) (by simp [Try.f66]) ?_
    simp only [Try.f66]
    simp (maxSteps := 2000000) -implicitDefEqProofs only [zz, zE, evop, ev, ofVal, tget, tput, ok, V.isUndef, intBin, guardOf, initT, Ch.on, calleeOf, withArgs, told, xport, xports, tids, tidss, hget, hput, Blk.ice, freeze, V.cells, D.cells, V.isAgg, V.one, V.clo, clos, V.toD, loadD, structAt, eqCells, D.scalarEq, sliceOf, partsD, partsV, bound, isPtr, Blk.width, elems, lenOf, splice, D.over, resOf, resV, resVs, ↓reduceIte, reduceCtorEq, ↓reduceDIte, Nat.reduceLT, Nat.reduceEqDiff, Nat.reduceAdd, Nat.reduceSub, Nat.reduceMul, Nat.reduceLeDiff, Nat.reduceBEq, Nat.reduceBNe, Int.reduceNeg, Int.reduceAdd, Int.reduceSub, Int.reduceToNat, nilTest, shiftH, Blk.ren, V.ren, renL, initV, frameH, putL, frρ, dI, finN_ret, finN_normal]
    have hwu : IntKind.u64.wrap (ns.length : Int) = (ns.length : Int) := by rw [IntKind.wrap_u64]; omega
    have hB : CSpec Try.prog 79 [.int .u64 (IntKind.u64.wrap (ns.length : Int))] (.int .i64 (Lib.bitLen ((ns.length : Int)).toNat)) := by rw [hwu]; exact c_bitsLen _ (by omega) (by omega)
    refine acall_flat (by first | rfl | (simp only [xports, xport, hget]; rfl)) (hB) rfl ?_
    try simp (maxSteps := 2000000) -implicitDefEqProofs only [zz, zE, evop, ev, ofVal, tget, tput, ok, V.isUndef, intBin, guardOf, initT, Ch.on, calleeOf, withArgs, told, xport, xports, tids, tidss, hget, hput, Blk.ice, freeze, V.cells, D.cells, V.isAgg, V.one, V.clo, clos, V.toD, loadD, structAt, eqCells, D.scalarEq, sliceOf, partsD, partsV, bound, isPtr, Blk.width, elems, lenOf, splice, D.over, resOf, resV, resVs, ↓reduceIte, reduceCtorEq, ↓reduceDIte, Nat.reduceLT, Nat.reduceEqDiff, Nat.reduceAdd, Nat.reduceSub, Nat.reduceMul, Nat.reduceLeDiff, Nat.reduceBEq, Nat.reduceBNe, Int.reduceNeg, Int.reduceAdd, Int.reduceSub, Int.reduceToNat, nilTest, shiftH, Blk.ren, V.ren, renL, initV, frameH, putL, frρ, dI, finN_ret, finN_normal]
    have hbl : Lib.bitLen ns.length ≤ 1000 := by
      rcases Nat.eq_zero_or_pos ns.length with h | h
      · rw [h]; decide
      · have hp := bitLen_pow _ ns.length rfl h (by omega)
        refine Classical.byContradiction fun h => ?_
        have := Nat.pow_le_pow_right (show 0 < 2 by decide) (show 65 ≤ Lib.bitLen ns.length by omega)
        omega
    refine acall_refN [0] (n_pdq hC hO _ ns 0 ns.length (Lib.bitLen ns.length) rfl (Nat.zero_le _) (Nat.le_refl _) hM hl hnd hbl (.inl rfl)) (by first | rfl | simp [renL, V.ren, frρ, renL_ds]) (by simp) rfl (by first | (rintro _ _ ⟨_, rfl, rfl, _⟩; simp; done) | (rintro _ _ ⟨_, _, rfl, rfl, _⟩; simp; done) | (rintro _ _ ⟨_, _, _, rfl, rfl, _⟩; simp; done) | (rintro _ _ ⟨_, _, _, rfl, rfl⟩; simp; done)) (by simp) (by intro j hj; match j, hj with | 0, _ => exact ⟨by simp [hget], rfl⟩) ?_
    rintro _ _ ⟨zs', rfl, rfl, h1, h2⟩
    simp (maxSteps := 2000000) -implicitDefEqProofs only [zz, zE, evop, ev, ofVal, tget, tput, ok, V.isUndef, intBin, guardOf, initT, Ch.on, calleeOf, withArgs, told, xport, xports, tids, tidss, hget, hput, Blk.ice, freeze, V.cells, D.cells, V.isAgg, V.one, V.clo, clos, V.toD, loadD, structAt, eqCells, D.scalarEq, sliceOf, partsD, partsV, bound, isPtr, Blk.width, elems, lenOf, splice, D.over, resOf, resV, resVs, ↓reduceIte, reduceCtorEq, ↓reduceDIte, Nat.reduceLT, Nat.reduceEqDiff, Nat.reduceAdd, Nat.reduceSub, Nat.reduceMul, Nat.reduceLeDiff, Nat.reduceBEq, Nat.reduceBNe, Int.reduceNeg, Int.reduceAdd, Int.reduceSub, Int.reduceToNat, nilTest, shiftH, Blk.ren, V.ren, renL, initV, frameH, putL, frρ, dI, finN_ret, finN_normal]
    exact ⟨_, _, ⟨zs', rfl, rfl, h1, h2⟩, Weak.trimsM 1 (by simp) rfl (by simp [tget, V.lower, lowerL, lowerL_ds]) (by simp [Blk.lower])⟩
  refine hn.r ?_
  rintro _ _ ⟨zs', rfl, rfl, h1, h2⟩
  refine ⟨rfl, ?_⟩
  rw [so_unique hO h1.perm (by rw [h1.len]; exact h2)]
end

theorem cmpI_lt {a b : Int} : cmpI a b < 0 ↔ a < b := by
  unfold cmpI
  by_cases h1 : a < b <;> by_cases h2 : a > b <;> simp [h1, h2] <;> omega
theorem cmpI_eq {a b : Int} : cmpI a b = 0 ↔ a = b := by
  unfold cmpI
  by_cases h1 : a < b <;> by_cases h2 : a > b <;> simp [h1, h2] <;> omega
theorem aheadC_lt {ts : List Int} {a b : Int} : aheadC ts a b < 0 ↔ ts.getD a.toNat 0 < ts.getD b.toNat 0 ∨ (ts.getD a.toNat 0 = ts.getD b.toNat 0 ∧ a < b) := by
  unfold aheadC
  by_cases h : cmpI (ts.getD a.toNat 0) (ts.getD b.toNat 0) = 0
  · rw [if_pos h, cmpI_lt]
    have := cmpI_eq.1 h
    omega
  · rw [if_neg h, cmpI_lt]
    have h2 : ts.getD a.toNat 0 ≠ ts.getD b.toNat 0 := fun e => h (cmpI_eq.2 e)
    omega
theorem aheadC_ord (ts : List Int) : Ord (aheadC ts) := by
  refine ⟨⟨fun x => decide_eq_false ?_, fun x y z h1 h2 => decide_eq_true ?_, fun x y z h1 h2 => decide_eq_false ?_⟩, fun x y h => ?_⟩
  · rw [aheadC_lt]; omega
  · have h1 := of_decide_eq_true h1
    have h2 := of_decide_eq_true h2
    rw [aheadC_lt] at *
    omega
  · have h1 := of_decide_eq_false h1
    have h2 := of_decide_eq_false h2
    rw [aheadC_lt] at *
    omega
  · rw [aheadC_lt, aheadC_lt]
    omega

theorem dueIx_nodup (now : Int) (ts : List Int) : ∀ k, (dueIx now ts k).Nodup
  | 0 => by simp [dueIx]
  | k + 1 => by
    simp only [dueIx]
    split
    · refine List.nodup_append.2 ⟨dueIx_nodup now ts k, by simp, fun x hx y hy => ?_⟩
      obtain ⟨j, rfl, hj⟩ := dueIx_mem hx
      obtain rfl : y = _ := by simpa using hy
      omega
    · exact dueIx_nodup now ts k

theorem o_DueN (now : Int) (ts : List Int) (hl : ts.length ≤ 1000000) : FSpec Try.prog 43 [.int .i64 now, .vec (ts.map dI)] (.own 0 0 (tickDue now ts).length) [.dat false 1 ((tickDue now ts).map dI)] := by
  refine FSpec.of_awp envOf_ok hmix Try.func43 rfl (fun args w => Try.call43 args w) (by simp [Try.f43]) ?_
  simp only [Try.f43]
  simp (maxSteps := 2000000) -implicitDefEqProofs only [zz, zE, evop, ev, ofVal, tget, tput, ok, V.isUndef, intBin, guardOf, initT, Ch.on, calleeOf, withArgs, told, xport, xports, tids, tidss, hget, hput, Blk.ice, freeze, V.cells, D.cells, V.isAgg, V.one, V.clo, clos, V.toD, loadD, structAt, eqCells, D.scalarEq, sliceOf, partsD, partsV, bound, isPtr, Blk.width, elems, lenOf, splice, D.over, resOf, resV, resVs, ↓reduceIte, reduceCtorEq, ↓reduceDIte, Nat.reduceLT, Nat.reduceEqDiff, Nat.reduceAdd, Nat.reduceSub, Nat.reduceMul, Nat.reduceLeDiff, Nat.reduceBEq, Nat.reduceBNe, Int.reduceNeg, Int.reduceAdd, Int.reduceSub, Int.reduceToNat, nilTest, shiftH, Blk.ren, V.ren, renL, initV, frameH, putL, frρ, dI, finN_ret, finN_normal]
  refine wloop_count ts.length (fun i => [(10, .d (.int .i64 i)), (9, .d (.int .i64 ts.length)), (8, .d (.vec (ts.map dI))), (5, .own 0 0 (dueIx now ts i).length), (0, .d (.int .i64 now)), (1, .d (.vec (ts.map dI)))]) (fun i => [.dat false 1 ((dueIx now ts i).map dI)]) (fun i => True) trivial ?_ (fun i hi _ => ?_) (fun _ => ?_)
  · refine Weak.pick [7] (by simp) (by simp) rfl (fun q hq => ?_) (fun i hi => ?_)
    · simp only [List.mem_cons, List.not_mem_nil, or_false] at hq
      rcases hq with rfl | rfl | rfl | rfl | rfl | rfl <;> first | exact .same _ | exact .nils 0 1 rfl
    · obtain rfl : i = 0 := by simpa using hi
      exact .virt 1 rfl rfl
  · have hx : ts[i]? = some ts[i] := List.getElem?_eq_getElem hi
    have h' : ((i : Int) < (ts.length : Int)) := by omega
    have hw : IntKind.i64.wrap ((i : Int) + 1) = ((i + 1 : Nat) : Int) := by rw [wrap_in (by omega)]; omega
    simp (maxSteps := 2000000) -implicitDefEqProofs only [zz, zE, evop, ev, ofVal, tget, tput, ok, V.isUndef, intBin, guardOf, initT, Ch.on, calleeOf, withArgs, told, xport, xports, tids, tidss, hget, hput, Blk.ice, freeze, V.cells, D.cells, V.isAgg, V.one, V.clo, clos, V.toD, loadD, structAt, eqCells, D.scalarEq, sliceOf, partsD, partsV, bound, isPtr, Blk.width, elems, lenOf, splice, D.over, resOf, resV, resVs, ↓reduceIte, reduceCtorEq, ↓reduceDIte, Nat.reduceLT, Nat.reduceEqDiff, Nat.reduceAdd, Nat.reduceSub, Nat.reduceMul, Nat.reduceLeDiff, Nat.reduceBEq, Nat.reduceBNe, Int.reduceNeg, Int.reduceAdd, Int.reduceSub, Int.reduceToNat, nilTest, shiftH, Blk.ren, V.ren, renL, initV, frameH, putL, frρ, dI, finN_ret, finN_normal, h', List.getElem?_map, hx, Option.map_some, Int.natCast_nonneg]
    refine acall_flat (by first | rfl | (simp only [xports, xport, hget]; rfl)) (c_tick_Right _) rfl ?_
    try simp (maxSteps := 2000000) -implicitDefEqProofs only [zz, zE, evop, ev, ofVal, tget, tput, ok, V.isUndef, intBin, guardOf, initT, Ch.on, calleeOf, withArgs, told, xport, xports, tids, tidss, hget, hput, Blk.ice, freeze, V.cells, D.cells, V.isAgg, V.one, V.clo, clos, V.toD, loadD, structAt, eqCells, D.scalarEq, sliceOf, partsD, partsV, bound, isPtr, Blk.width, elems, lenOf, splice, D.over, resOf, resV, resVs, ↓reduceIte, reduceCtorEq, ↓reduceDIte, Nat.reduceLT, Nat.reduceEqDiff, Nat.reduceAdd, Nat.reduceSub, Nat.reduceMul, Nat.reduceLeDiff, Nat.reduceBEq, Nat.reduceBNe, Int.reduceNeg, Int.reduceAdd, Int.reduceSub, Int.reduceToNat, nilTest, shiftH, Blk.ren, V.ren, renL, initV, frameH, putL, frρ, dI, finN_ret, finN_normal]
    simp (maxSteps := 2000000) -implicitDefEqProofs only [zz, zE, evop, ev, ofVal, tget, tput, ok, V.isUndef, intBin, guardOf, initT, Ch.on, calleeOf, withArgs, told, xport, xports, tids, tidss, hget, hput, Blk.ice, freeze, V.cells, D.cells, V.isAgg, V.one, V.clo, clos, V.toD, loadD, structAt, eqCells, D.scalarEq, sliceOf, partsD, partsV, bound, isPtr, Blk.width, elems, lenOf, splice, D.over, resOf, resV, resVs, ↓reduceIte, reduceCtorEq, ↓reduceDIte, Nat.reduceLT, Nat.reduceEqDiff, Nat.reduceAdd, Nat.reduceSub, Nat.reduceMul, Nat.reduceLeDiff, Nat.reduceBEq, Nat.reduceBNe, Int.reduceNeg, Int.reduceAdd, Int.reduceSub, Int.reduceToNat, nilTest, shiftH, Blk.ren, V.ren, renL, initV, frameH, putL, frρ, dI, finN_ret, finN_normal, hw]
    have hll := dueIx_len now ts i
    have hd : dueB now (ts.getD i 0) = (tickR ts[i] && decide (ts[i] ≤ now)) := by simp [dueB, List.getD_eq_getElem?_getD, hx]
    have skip : dueB now (ts.getD i 0) = false → dueIx now ts (i + 1) = dueIx now ts i := fun h => by simp only [dueIx, h]; simp
    split
    · rename_i h1
      split
      · rename_i h2
        have e : dueIx now ts (i + 1) = dueIx now ts i ++ [(i : Int)] := by
          have : dueB now (ts.getD i 0) = true := by rw [hd, h1]; simpa using h2
          simp only [dueIx, this, if_true]
        refine ⟨⟨by omega, fun e he => ?_⟩, ?_⟩
        · obtain rfl : e = _ := by simpa using he
          rfl
        · rw [e]
          have e2 : List.take (dueIx now ts i).length (List.map dI (dueIx now ts i)) ++ [D.int IntKind.i64 (i : Int)] = List.map dI (dueIx now ts i ++ [(i : Int)]) := by
            rw [List.take_of_length_le (by simp)]; simp [dI]
          rw [e2]
          refine Weak.pick [2] (by simp) (by simp) rfl (fun q hq => ?_) (fun i hi => ?_)
          · simp only [List.mem_cons, List.not_mem_nil, or_false] at hq
            have e3 : (dueIx now ts i ++ [(i : Int)]).length = (dueIx now ts i).length + 1 := by simp
            rcases hq with rfl | rfl | rfl | rfl | rfl | rfl
            · exact .same _
            · exact .same _
            · exact .same _
            · rw [e3]; exact .same _
            · exact .same _
            · exact .same _
          · obtain rfl : i = 0 := by simpa using hi
            exact .dat false 1 _ rfl rfl
      · rename_i h2
        rw [skip (by rw [hd]; simp at h2; simp; intro _; omega)]
        exact Weak.trims 1 rfl (by simp [tget, V.lower]) (by simp [Blk.lower])
    · rename_i h1
      rw [skip (by rw [hd]; simp at h1; simp [h1])]
      exact Weak.trims 1 rfl (by simp [tget, V.lower]) (by simp [Blk.lower])
  · have h' : ¬ ((ts.length : Int) < (ts.length : Int)) := by omega
    simp (maxSteps := 2000000) -implicitDefEqProofs only [zz, zE, evop, ev, ofVal, tget, tput, ok, V.isUndef, intBin, guardOf, initT, Ch.on, calleeOf, withArgs, told, xport, xports, tids, tidss, hget, hput, Blk.ice, freeze, V.cells, D.cells, V.isAgg, V.one, V.clo, clos, V.toD, loadD, structAt, eqCells, D.scalarEq, sliceOf, partsD, partsV, bound, isPtr, Blk.width, elems, lenOf, splice, D.over, resOf, resV, resVs, ↓reduceIte, reduceCtorEq, ↓reduceDIte, Nat.reduceLT, Nat.reduceEqDiff, Nat.reduceAdd, Nat.reduceSub, Nat.reduceMul, Nat.reduceLeDiff, Nat.reduceBEq, Nat.reduceBNe, Int.reduceNeg, Int.reduceAdd, Int.reduceSub, Int.reduceToNat, nilTest, shiftH, Blk.ren, V.ren, renL, initV, frameH, putL, frρ, dI, finN_ret, finN_normal, h']
    refine acall_ref [0] (r_SortFunc (f := (67, 1)) (cap := [.vec (ts.map dI)]) (c := aheadC ts) (M := fun x => ∃ j : Nat, x = j ∧ j < ts.length) ⟨by simp, fun x y hx hy => by obtain ⟨i, rfl, hi⟩ := hx; obtain ⟨j, rfl, hj⟩ := hy; exact c_ahead ts i j hi hj⟩ (aheadC_ord ts) (dueIx now ts ts.length) (fun z hz => dueIx_mem hz) (Nat.le_trans (dueIx_len now ts _) hl) (dueIx_nodup now ts _)) (by first | rfl | simp [renL, V.ren, frρ, renL_ds]) (by simp) rfl (by simp) (by simp) (by intro j hj; match j, hj with | 0, _ => exact ⟨by simp [hget], rfl⟩) ?_
    try simp (maxSteps := 2000000) -implicitDefEqProofs only [zz, zE, evop, ev, ofVal, tget, tput, ok, V.isUndef, intBin, guardOf, initT, Ch.on, calleeOf, withArgs, told, xport, xports, tids, tidss, hget, hput, Blk.ice, freeze, V.cells, D.cells, V.isAgg, V.one, V.clo, clos, V.toD, loadD, structAt, eqCells, D.scalarEq, sliceOf, partsD, partsV, bound, isPtr, Blk.width, elems, lenOf, splice, D.over, resOf, resV, resVs, ↓reduceIte, reduceCtorEq, ↓reduceDIte, Nat.reduceLT, Nat.reduceEqDiff, Nat.reduceAdd, Nat.reduceSub, Nat.reduceMul, Nat.reduceLeDiff, Nat.reduceBEq, Nat.reduceBNe, Int.reduceNeg, Int.reduceAdd, Int.reduceSub, Int.reduceToNat, nilTest, shiftH, Blk.ren, V.ren, renL, initV, frameH, putL, frρ, dI, finN_ret, finN_normal]
    have e : (tickDue now ts).length = (dueIx now ts ts.length).length := by unfold tickDue; rw [isort_length]
    rw [e]
    exact Weak.sub (H := [.dat false 1 ((tickDue now ts).map dI)]) (by simp [tget])


theorem c_FirstN (ts : List Int) (hl : ts.length ≤ 1000000) : CSpec Try.prog 44 [.vec (ts.map dI)] (.int .i64 (((tickDue 2147483647 ts)[0]?).getD (-1))) := by
  refine CSpec.of_awp envOf_ok hmix Try.func44 rfl (fun args w => Try.call44 args w) (by simp [Try.f44]) ?_
  simp only [Try.f44]
  simp (maxSteps := 2000000) -implicitDefEqProofs only [zz, zE, evop, ev, ofVal, tget, tput, ok, V.isUndef, intBin, guardOf, initT, Ch.on, calleeOf, withArgs, told, xport, xports, tids, tidss, hget, hput, Blk.ice, freeze, V.cells, D.cells, V.isAgg, V.one, V.clo, clos, V.toD, loadD, structAt, eqCells, D.scalarEq, sliceOf, partsD, partsV, bound, isPtr, Blk.width, elems, lenOf, splice, D.over, resOf, resV, resVs, ↓reduceIte, reduceCtorEq, ↓reduceDIte, Nat.reduceLT, Nat.reduceEqDiff, Nat.reduceAdd, Nat.reduceSub, Nat.reduceMul, Nat.reduceLeDiff, Nat.reduceBEq, Nat.reduceBNe, Int.reduceNeg, Int.reduceAdd, Int.reduceSub, Int.reduceToNat, nilTest, shiftH, Blk.ren, V.ren, renL, initV, frameH, putL, frρ, dI, finN_ret, finN_normal]
  refine acall_own (by first | rfl | (simp only [xports, xport, hget]; rfl)) (o_DueN 2147483647 ts hl) ?_
  try simp (maxSteps := 2000000) -implicitDefEqProofs only [zz, zE, evop, ev, ofVal, tget, tput, ok, V.isUndef, intBin, guardOf, initT, Ch.on, calleeOf, withArgs, told, xport, xports, tids, tidss, hget, hput, Blk.ice, freeze, V.cells, D.cells, V.isAgg, V.one, V.clo, clos, V.toD, loadD, structAt, eqCells, D.scalarEq, sliceOf, partsD, partsV, bound, isPtr, Blk.width, elems, lenOf, splice, D.over, resOf, resV, resVs, ↓reduceIte, reduceCtorEq, ↓reduceDIte, Nat.reduceLT, Nat.reduceEqDiff, Nat.reduceAdd, Nat.reduceSub, Nat.reduceMul, Nat.reduceLeDiff, Nat.reduceBEq, Nat.reduceBNe, Int.reduceNeg, Int.reduceAdd, Int.reduceSub, Int.reduceToNat, nilTest, shiftH, Blk.ren, V.ren, renL, initV, frameH, putL, frρ, dI, finN_ret, finN_normal]
  rcases hT : tickDue 2147483647 ts with _ | ⟨x, r⟩
  · simp (maxSteps := 2000000) -implicitDefEqProofs only [zz, zE, evop, ev, ofVal, tget, tput, ok, V.isUndef, intBin, guardOf, initT, Ch.on, calleeOf, withArgs, told, xport, xports, tids, tidss, hget, hput, Blk.ice, freeze, V.cells, D.cells, V.isAgg, V.one, V.clo, clos, V.toD, loadD, structAt, eqCells, D.scalarEq, sliceOf, partsD, partsV, bound, isPtr, Blk.width, elems, lenOf, splice, D.over, resOf, resV, resVs, ↓reduceIte, reduceCtorEq, ↓reduceDIte, Nat.reduceLT, Nat.reduceEqDiff, Nat.reduceAdd, Nat.reduceSub, Nat.reduceMul, Nat.reduceLeDiff, Nat.reduceBEq, Nat.reduceBNe, Int.reduceNeg, Int.reduceAdd, Int.reduceSub, Int.reduceToNat, nilTest, shiftH, Blk.ren, V.ren, renL, initV, frameH, putL, frρ, dI, finN_ret, finN_normal, Int.natCast_zero]
  · have hne : (((r.length + 1 : Nat) : Int) == 0) = false := by rw [beq_eq_false_iff_ne]; omega
    simp (maxSteps := 2000000) -implicitDefEqProofs only [zz, zE, evop, ev, ofVal, tget, tput, ok, V.isUndef, intBin, guardOf, initT, Ch.on, calleeOf, withArgs, told, xport, xports, tids, tidss, hget, hput, Blk.ice, freeze, V.cells, D.cells, V.isAgg, V.one, V.clo, clos, V.toD, loadD, structAt, eqCells, D.scalarEq, sliceOf, partsD, partsV, bound, isPtr, Blk.width, elems, lenOf, splice, D.over, resOf, resV, resVs, ↓reduceIte, reduceCtorEq, ↓reduceDIte, Nat.reduceLT, Nat.reduceEqDiff, Nat.reduceAdd, Nat.reduceSub, Nat.reduceMul, Nat.reduceLeDiff, Nat.reduceBEq, Nat.reduceBNe, Int.reduceNeg, Int.reduceAdd, Int.reduceSub, Int.reduceToNat, nilTest, shiftH, Blk.ren, V.ren, renL, initV, frameH, putL, frρ, dI, finN_ret, finN_normal, hne]
    simp


theorem c_DueN (now : Int) (ts : List Int) (hl : ts.length ≤ 1000000) : CSpec Try.prog 43 [.int .i64 now, .vec (ts.map dI)] (.vec ((tickDue now ts).map dI)) :=
  (o_DueN now ts hl).cspec (by simp only [xport, hget, List.drop_zero]; rw [List.take_of_length_le (by simp)])


end Go.Proofs.Ythpapgbpmkgfeaa.AM

/- What is due: plain laws. -/
set_option linter.all false
namespace Go.Proofs.Ythpapgbpmkgfeaa.AM
open Go

theorem isort_unique {c : Int → Int → Int} (hO : Ord c) {zs l : List Int} (hp : l.Perm zs) (h1 : l.Pairwise (fun x y => ¬ c y x < 0)) : l = isort (fun x y => decide (c x y < 0)) zs := by
  refine so_unique hO hp (fun i j _ hij hj => ?_)
  have := List.pairwise_iff_getElem.1 h1 i j (by omega) hj hij
  rw [List.getD_eq_getElem?_getD, List.getD_eq_getElem?_getD, List.getElem?_eq_getElem (show i < l.length by omega), List.getElem?_eq_getElem hj]
  exact this
theorem isort_pwC {c : Int → Int → Int} (hO : Ord c) (zs : List Int) : (isort (fun x y => decide (c x y < 0)) zs).Pairwise (fun x y => ¬ c y x < 0) :=
  List.Pairwise.imp (fun h => of_decide_eq_false h) (isort_pw (lt := ltC c) hO.hnt hO.has zs)

theorem perm_of_mem {l m : List Int} (hl : l.Nodup) (hm : m.Nodup) (h : ∀ x, x ∈ l ↔ x ∈ m) : l.Perm m := by
  rw [List.perm_iff_count]
  intro x
  rw [List.Nodup.count hl, List.Nodup.count hm]
  simp only [h]

theorem mem_dueIx {now : Int} {ts : List Int} {x : Int} : ∀ {k : Nat}, x ∈ dueIx now ts k ↔ ∃ j : Nat, x = j ∧ j < k ∧ dueB now (ts.getD j 0) = true
  | 0 => by simp [dueIx]
  | k + 1 => by
    simp only [dueIx]
    split
    · rename_i hd
      rw [List.mem_append, mem_dueIx]
      constructor
      · rintro (⟨j, h1, h2, h3⟩ | h)
        · exact ⟨j, h1, by omega, h3⟩
        · exact ⟨k, by simpa using h, by omega, hd⟩
      · rintro ⟨j, h1, h2, h3⟩
        by_cases e : j = k
        · exact .inr (by simp [h1, e])
        · exact .inl ⟨j, h1, by omega, h3⟩
    · rename_i hd
      rw [mem_dueIx]
      constructor
      · rintro ⟨j, h1, h2, h3⟩; exact ⟨j, h1, by omega, h3⟩
      · rintro ⟨j, h1, h2, h3⟩
        refine ⟨j, h1, ?_, h3⟩
        by_cases e : j = k
        · subst e; exact absurd h3 hd
        · omega

theorem mem_tickDue {now : Int} {ts : List Int} {x : Int} : x ∈ tickDue now ts ↔ ∃ j : Nat, x = j ∧ j < ts.length ∧ dueB now (ts.getD j 0) = true := by
  unfold tickDue
  rw [(isort_perm (aheadC_ord ts) _ _).mem_iff, mem_dueIx]
theorem tickDue_nodup (now : Int) (ts : List Int) : (tickDue now ts).Nodup :=
  ((isort_perm (aheadC_ord ts) _ _).nodup_iff).2 (dueIx_nodup now ts _)
theorem tickDue_pw (now : Int) (ts : List Int) : (tickDue now ts).Pairwise (fun x y => ¬ aheadC ts y x < 0) := isort_pwC (aheadC_ord ts) _
theorem tickDue_eq {now : Int} {ts : List Int} {l : List Int} (hn : l.Nodup) (hm : ∀ x, x ∈ l ↔ x ∈ tickDue now ts) (hp : l.Pairwise (fun x y => ¬ aheadC ts y x < 0)) : l = tickDue now ts := by
  refine isort_unique (aheadC_ord ts) ?_ hp
  refine perm_of_mem hn (dueIx_nodup now ts _) (fun x => ?_)
  rw [hm, mem_tickDue, mem_dueIx]
theorem tickDue_len (now : Int) (ts : List Int) : (tickDue now ts).length ≤ ts.length := by
  unfold tickDue; rw [isort_length]; exact dueIx_len now ts _

theorem dueB_mono {lo hi n : Int} (h : lo ≤ hi) (hd : dueB lo n = true) : dueB hi n = true := by
  simp only [dueB, Bool.and_eq_true, decide_eq_true_eq] at *
  exact ⟨hd.1, by omega⟩

/-- What is due earlier comes first. -/
theorem tickDue_split {lo hi : Int} (h : lo ≤ hi) (ts : List Int) : ∃ R, tickDue hi ts = tickDue lo ts ++ R ∧ ∀ x ∈ R, ∃ j : Nat, x = j ∧ j < ts.length ∧ lo < ts.getD j 0 := by
  refine ⟨(tickDue hi ts).filter (fun x => decide (lo < ts.getD x.toNat 0)), ?_, fun x hx => ?_⟩
  · refine (tickDue_eq ?_ (fun x => ?_) ?_).symm
    · refine List.nodup_append.2 ⟨tickDue_nodup lo ts, (tickDue_nodup hi ts).filter _, fun x hx y hy e => ?_⟩
      subst e
      obtain ⟨j, rfl, h1, h2⟩ := mem_tickDue.1 hx
      have := (List.mem_filter.1 hy).2
      simp only [dueB, Bool.and_eq_true, decide_eq_true_eq, Int.toNat_natCast] at h2 this
      omega
    · rw [List.mem_append, List.mem_filter, mem_tickDue, mem_tickDue]
      constructor
      · rintro (⟨j, h1, h2, h3⟩ | ⟨h, _⟩)
        · exact ⟨j, h1, h2, dueB_mono h h3⟩
        · exact h
      · rintro ⟨j, rfl, h2, h3⟩
        by_cases e : lo < ts.getD j 0
        · exact .inr ⟨⟨j, rfl, h2, h3⟩, by simpa using e⟩
        · refine .inl ⟨j, rfl, h2, ?_⟩
          simp only [dueB, Bool.and_eq_true, decide_eq_true_eq] at *
          exact ⟨h3.1, by omega⟩
    · refine List.pairwise_append.2 ⟨tickDue_pw lo ts, (tickDue_pw hi ts).filter _, fun x hx y hy hc => ?_⟩
      obtain ⟨j, rfl, h1, h2⟩ := mem_tickDue.1 hx
      have := (List.mem_filter.1 hy).2
      rw [aheadC_lt] at hc
      simp only [dueB, Bool.and_eq_true, decide_eq_true_eq, Int.toNat_natCast] at h2 this hc
      omega
  · obtain ⟨h1, h2⟩ := List.mem_filter.1 hx
    obtain ⟨j, rfl, h3, _⟩ := mem_tickDue.1 h1
    exact ⟨j, rfl, h3, by simpa using h2⟩

/-- One time more, behind the others, changes nothing of the others' order. -/
theorem tickDue_more (now m : Int) (ts : List Int) : (tickDue now (ts ++ [m])).filter (fun x => !(x == (ts.length : Int))) = tickDue now ts := by
  have g : ∀ j : Nat, j < ts.length → (ts ++ [m]).getD j 0 = ts.getD j 0 := fun j hj => by
    rw [List.getD_eq_getElem?_getD, List.getD_eq_getElem?_getD, List.getElem?_append_left hj]
  have hmem : ∀ x, x ∈ (tickDue now (ts ++ [m])).filter (fun x => !(x == (ts.length : Int))) ↔ x ∈ tickDue now ts := fun x => by
    rw [List.mem_filter, mem_tickDue, mem_tickDue]
    simp only [List.length_append, List.length_cons, List.length_nil, Bool.not_eq_true', beq_eq_false_iff_ne]
    constructor
    · rintro ⟨⟨j, rfl, h2, h3⟩, h4⟩
      have hj : j < ts.length := by omega
      exact ⟨j, rfl, hj, by rw [← g j hj]; exact h3⟩
    · rintro ⟨j, rfl, h2, h3⟩
      exact ⟨⟨j, rfl, by omega, by rw [g j h2]; exact h3⟩, by omega⟩
  refine tickDue_eq ((tickDue_nodup _ _).filter _) hmem ?_
  refine List.Pairwise.imp_of_mem (fun {x y} hx hy h => ?_) ((tickDue_pw now (ts ++ [m])).filter _)
  obtain ⟨j, rfl, h1, _⟩ := mem_tickDue.1 ((hmem x).1 hx)
  obtain ⟨k, rfl, h2, _⟩ := mem_tickDue.1 ((hmem y).1 hy)
  rw [aheadC_lt] at *
  simp only [Int.toNat_natCast] at *
  rwa [g j h1, g k h2] at h
theorem tickDue_more_len (now m : Int) (ts : List Int) : (tickDue now (ts ++ [m])).length = (tickDue now ts).length + (if dueB now m = true then 1 else 0) := by
  have h1 : (tickDue now (ts ++ [m])).length = (dueIx now (ts ++ [m]) (ts.length + 1)).length := by unfold tickDue; rw [isort_length]; simp
  have h2 : (tickDue now ts).length = (dueIx now ts ts.length).length := by unfold tickDue; rw [isort_length]
  have h3 : ∀ k, k ≤ ts.length → dueIx now (ts ++ [m]) k = dueIx now ts k := by
    intro k
    induction k with
    | zero => intro _; rfl
    | succ k ih =>
      intro hk
      simp only [dueIx]
      rw [ih (by omega), List.getD_eq_getElem?_getD, List.getD_eq_getElem?_getD, List.getElem?_append_left (by omega)]
  rw [h1, h2]
  simp only [dueIx]
  rw [h3 _ (Nat.le_refl _)]
  have h4 : (ts ++ [m]).getD ts.length 0 = m := by rw [List.getD_eq_getElem?_getD, List.getElem?_append_right (Nat.le_refl _)]; simp
  rw [h4]
  split <;> simp

/-- The first one: none is less. -/
theorem tickDue_head {ts : List Int} {k : Int} (h : (tickDue 2147483647 ts)[0]? = some k) : ∃ j : Nat, k = j ∧ j < ts.length ∧ tickR (ts.getD j 0) = true ∧ ∀ i : Nat, i < ts.length → tickR (ts.getD i 0) = true → ¬ (ts.getD i 0 < ts.getD j 0 ∨ (ts.getD i 0 = ts.getD j 0 ∧ i < j)) := by
  obtain ⟨j, rfl, h1, h2⟩ := mem_tickDue.1 (List.mem_of_getElem? h)
  have hr : ∀ n, dueB 2147483647 n = tickR n := fun n => by
    unfold dueB tickR
    rw [Bool.eq_iff_iff]; simp
  rw [hr] at h2
  refine ⟨j, rfl, h1, h2, fun i hi hti hc => ?_⟩
  have hm : (i : Int) ∈ tickDue 2147483647 ts := mem_tickDue.2 ⟨i, rfl, hi, by rw [hr]; exact hti⟩
  cases hT : tickDue 2147483647 ts with
  | nil => rw [hT] at h; simp at h
  | cons x r =>
    rw [hT] at h hm
    simp at h
    subst h
    have hpw := tickDue_pw 2147483647 ts
    rw [hT] at hpw
    rcases List.mem_cons.1 hm with e | hm
    · have : i = j := by omega
      subst this; omega
    · have := (List.pairwise_cons.1 hpw).1 _ hm
      rw [aheadC_lt] at this
      simp only [Int.toNat_natCast] at this
      omega
theorem tickDue_none {ts : List Int} (h : (tickDue 2147483647 ts)[0]? = none) : ∀ i : Nat, i < ts.length → tickR (ts.getD i 0) = false := fun i hi => by
  cases ht : tickR (ts.getD i 0) with
  | false => rfl
  | true =>
    have : dueB 2147483647 (ts.getD i 0) = true := by
      unfold dueB; rw [ht]
      unfold tickR at ht; simp at ht ⊢; exact ht.2
    have hm : (i : Int) ∈ tickDue 2147483647 ts := mem_tickDue.2 ⟨i, rfl, hi, this⟩
    cases hT : tickDue 2147483647 ts with
    | nil => rw [hT] at hm; simp at hm
    | cons x r => rw [hT] at h; simp at h
end Go.Proofs.Ythpapgbpmkgfeaa.AM

/- The document's Due: the least not yet told, again and again; it is the list in order. -/
set_option linter.all false
set_option maxRecDepth 100000
set_option maxHeartbeats 8000000
namespace Go.Proofs.Ythpapgbpmkgfeaa.AM
open Go Go.RowKit

def cand (now : Int) (ts T : List Int) (j : Nat) : Bool := !(decide ((j : Int) ∈ T)) && dueB now (ts.getD j 0)
def bst (now : Int) (ts T : List Int) : Nat → Int
  | 0 => -1
  | i + 1 => if cand now ts T i = true ∧ (bst now ts T i < 0 ∨ ts.getD i 0 < ts.getD (bst now ts T i).toNat 0) then i else bst now ts T i

theorem bst_spec (now : Int) (ts T : List Int) : ∀ i, (bst now ts T i = -1 ∧ ∀ j, j < i → cand now ts T j = false) ∨ (∃ b : Nat, bst now ts T i = b ∧ b < i ∧ cand now ts T b = true ∧ ∀ j, j < i → cand now ts T j = true → ts.getD b 0 < ts.getD j 0 ∨ (ts.getD b 0 = ts.getD j 0 ∧ b ≤ j))
  | 0 => .inl ⟨rfl, fun j h => by omega⟩
  | i + 1 => by
    simp only [bst]
    rcases bst_spec now ts T i with ⟨h1, h2⟩ | ⟨b, h1, h2, h3, h4⟩
    · rw [h1]
      cases hc : cand now ts T i with
      | true =>
        rw [if_pos ⟨rfl, .inl (by decide)⟩]
        refine .inr ⟨i, rfl, by omega, hc, fun j hj hcj => ?_⟩
        by_cases e : j = i
        · subst e; omega
        · rw [h2 j (by omega)] at hcj; cases hcj
      | false =>
        rw [if_neg (by rintro ⟨h, _⟩; cases h)]
        refine .inl ⟨rfl, fun j hj => ?_⟩
        by_cases e : j = i
        · rw [e]; exact hc
        · exact h2 j (by omega)
    · rw [h1, Int.toNat_natCast]
      by_cases hc : cand now ts T i = true ∧ ((b : Int) < 0 ∨ ts.getD i 0 < ts.getD b 0)
      · rw [if_pos hc]
        have hlt : ts.getD i 0 < ts.getD b 0 := by rcases hc.2 with h | h <;> omega
        refine .inr ⟨i, rfl, by omega, hc.1, fun j hj hcj => ?_⟩
        by_cases e : j = i
        · subst e; omega
        · have := h4 j (by omega) hcj; omega
      · rw [if_neg hc]
        refine .inr ⟨b, rfl, by omega, h3, fun j hj hcj => ?_⟩
        by_cases e : j = i
        · subst e
          have : ¬ ts.getD j 0 < ts.getD b 0 := fun h => hc ⟨hcj, .inr h⟩
          omega
        · exact h4 j (by omega) hcj

/-- What is found is the next one. -/
theorem bst_eq (now : Int) (ts : List Int) (k : Nat) : bst now ts ((tickDue now ts).take k) ts.length = ((tickDue now ts)[k]?).getD (-1) := by
  have hnd := tickDue_nodup now ts
  have hpw := tickDue_pw now ts
  have hmem : ∀ x, x ∈ tickDue now ts ↔ _ := fun x => mem_tickDue (now := now) (ts := ts) (x := x)
  generalize tickDue now ts = L at hnd hpw hmem ⊢
  have hc : ∀ j, j < ts.length → (cand now ts (L.take k) j = true ↔ (j : Int) ∈ L.drop k) := fun j hj => by
    unfold cand
    simp only [Bool.and_eq_true, Bool.not_eq_true', decide_eq_false_iff_not]
    have hsplit : (j : Int) ∈ L ↔ (j : Int) ∈ L.take k ∨ (j : Int) ∈ L.drop k := by rw [← List.mem_append, List.take_append_drop]
    have hdis : (j : Int) ∈ L.take k → (j : Int) ∈ L.drop k → False := fun h1 h2 => by
      rw [← List.take_append_drop k L] at hnd
      exact (List.nodup_append.1 hnd).2.2 _ h1 _ h2 rfl
    have hL : (j : Int) ∈ L ↔ dueB now (ts.getD j 0) = true := by
      rw [hmem]
      constructor
      · rintro ⟨j', e, _, h⟩
        have : j' = j := by omega
        subst this; exact h
      · exact fun h => ⟨j, rfl, hj, h⟩
    constructor
    · rintro ⟨h1, h2⟩
      rcases hsplit.1 (hL.2 h2) with h | h
      · exact absurd h h1
      · exact h
    · exact fun h => ⟨fun h1 => hdis h1 h, hL.1 (hsplit.2 (.inr h))⟩
  rcases bst_spec now ts (L.take k) ts.length with ⟨h1, h2⟩ | ⟨b, h1, h2, h3, h4⟩
  · rw [h1]
    cases hk : L[k]? with
    | none => rfl
    | some x =>
      obtain ⟨j, rfl, hj, _⟩ := (hmem x).1 (List.mem_of_getElem? hk)
      have : (j : Int) ∈ L.drop k := List.mem_of_getElem? (i := 0) (by rw [List.getElem?_drop]; simpa using hk)
      have := (hc j hj).2 this
      rw [h2 j hj] at this; cases this
  · rw [h1]
    have hb := (hc b h2).1 h3
    cases hD : L.drop k with
    | nil => rw [hD] at hb; simp at hb
    | cons x r =>
      have hk : L[k]? = some x := by
        have := List.getElem?_drop (xs := L) (i := k) (j := 0)
        rw [hD] at this; simpa using this.symm
      rw [hk, Option.getD_some]
      obtain ⟨j, rfl, hj, _⟩ := (hmem x).1 (List.mem_of_getElem? hk)
      have hcj : cand now ts (L.take k) j = true := (hc j hj).2 (by rw [hD]; simp)
      have hm := h4 j hj hcj
      rw [hD] at hb
      rcases List.mem_cons.1 hb with e | hb
      · exact e
      · have hp2 : (L.drop k).Pairwise (fun x y => ¬ aheadC ts y x < 0) := hpw.sublist (List.drop_sublist k L)
        rw [hD] at hp2
        have := (List.pairwise_cons.1 hp2).1 _ hb
        rw [aheadC_lt] at this
        simp only [Int.toNat_natCast] at this
        omega

def tb (n : Nat) (T : List Int) : List D := (List.range n).map fun (j : Nat) => .bool (decide ((j : Int) ∈ T))
theorem tb_get {n : Nat} {T : List Int} {j : Nat} (h : j < n) : (tb n T)[j]? = some (.bool (decide ((j : Int) ∈ T))) := by simp [tb, h]
theorem tb_nil (n : Nat) : List.replicate n (D.bool false) = tb n [] := by
  apply List.ext_getElem?
  intro j
  by_cases h : j < n
  · rw [tb_get h]; simp [h]
  · rw [List.getElem?_eq_none (by simp; omega), List.getElem?_eq_none (by simp [tb]; omega)]
theorem tb_set {n : Nat} {T : List Int} {b : Nat} : (tb n T).set b (.bool true) = tb n (T ++ [(b : Int)]) := by
  apply List.ext_getElem?
  intro j
  by_cases h : j < n
  · rw [tb_get h, List.getElem?_set]
    by_cases e : b = j
    · subst e; rw [if_pos rfl, if_pos (by simp [tb]; omega)]; simp
    · rw [if_neg e, tb_get h]
      congr 2
      simp only [List.mem_append, List.mem_singleton, Int.ofNat_inj, decide_eq_decide]
      constructor
      · exact .inl
      · rintro (h | h)
        · exact h
        · omega
  · rw [List.getElem?_eq_none (by simp [tb]; omega), List.getElem?_eq_none (by simp [tb]; omega)]

theorem c_r04_Due (now : Int) (ts : List Int) (hl : ts.length ≤ 1000000) : CSpec Try.prog 39 [.int .i64 now, .vec (ts.map dI)] (.vec ((tickDue now ts).map dI)) := by
  refine CSpec.of_awp envOf_ok hmix Try.func39 rfl (fun args w => Try.call39 args w) (by simp [Try.f39]) ?_
  simp only [Try.f39]
  simp (maxSteps := 2000000) -implicitDefEqProofs only [zz, zE, evop, ev, ofVal, tget, tput, ok, V.isUndef, intBin, guardOf, initT, Ch.on, calleeOf, withArgs, told, xport, xports, tids, tidss, hget, hput, Blk.ice, freeze, V.cells, D.cells, V.isAgg, V.one, V.clo, clos, V.toD, loadD, structAt, eqCells, D.scalarEq, sliceOf, partsD, partsV, bound, isPtr, Blk.width, elems, lenOf, splice, D.over, resOf, resV, resVs, ↓reduceIte, reduceCtorEq, ↓reduceDIte, Nat.reduceLT, Nat.reduceEqDiff, Nat.reduceAdd, Nat.reduceSub, Nat.reduceMul, Nat.reduceLeDiff, Nat.reduceBEq, Nat.reduceBNe, Int.reduceNeg, Int.reduceAdd, Int.reduceSub, Int.reduceToNat, nilTest, shiftH, Blk.ren, V.ren, renL, initV, frameH, putL, frρ, dI, zeroD, okEl]
  refine ⟨⟨by omega, by omega, by omega⟩, ?_⟩
  rw [tb_nil]
  obtain ⟨L, hL⟩ : ∃ L, L = tickDue now ts := ⟨_, rfl⟩
  have hLl := tickDue_len now ts
  have hbest : ∀ k, bst now ts (L.take k) ts.length = (L[k]?).getD (-1) := fun k => by rw [hL]; exact bst_eq now ts k
  have hLm : ∀ x ∈ L, ∃ j : Nat, x = j ∧ j < ts.length := fun x hx => by
    rw [hL] at hx
    obtain ⟨j, h1, h2, _⟩ := mem_tickDue.1 hx
    exact ⟨j, h1, h2⟩
  rw [← hL] at hLl
  rw [← hL]
  refine wloop_ind (σ := Nat) (fun k => L.length + 1 - k) (fun k => [(6, .own 0 0 ts.length), (5, .own 1 0 k), (1, .d (.vec (ts.map dI))), (0, .d (.int .i64 now))]) (fun k => [.dat false 1 (tb ts.length (L.take k)), .dat false 1 ((L.take k).map dI)]) (fun k => k ≤ L.length) 0 (Nat.zero_le _) ?_ ?_
  · refine Weak.pick [0, 7] (by simp) (by simp) rfl (fun q hq => ?_) (fun i hi => ?_)
    · simp only [List.mem_cons, List.not_mem_nil, or_false] at hq
      rcases hq with rfl | rfl | rfl | rfl
      · exact .same _
      · exact .nils 1 1 rfl
      · exact .same _
      · exact .same _
    · obtain rfl | rfl : i = 0 ∨ i = 1 := by simp at hi; omega
      · exact .dat false 1 _ rfl rfl
      · exact .virt 1 rfl rfl
  · intro k hk
    simp (maxSteps := 2000000) -implicitDefEqProofs only [zz, zE, evop, ev, ofVal, tget, tput, ok, V.isUndef, intBin, guardOf, initT, Ch.on, calleeOf, withArgs, told, xport, xports, tids, tidss, hget, hput, Blk.ice, freeze, V.cells, D.cells, V.isAgg, V.one, V.clo, clos, V.toD, loadD, structAt, eqCells, D.scalarEq, sliceOf, partsD, partsV, bound, isPtr, Blk.width, elems, lenOf, splice, D.over, resOf, resV, resVs, ↓reduceIte, reduceCtorEq, ↓reduceDIte, Nat.reduceLT, Nat.reduceEqDiff, Nat.reduceAdd, Nat.reduceSub, Nat.reduceMul, Nat.reduceLeDiff, Nat.reduceBEq, Nat.reduceBNe, Int.reduceNeg, Int.reduceAdd, Int.reduceSub, Int.reduceToNat, nilTest, shiftH, Blk.ren, V.ren, renL, initV, frameH, putL, frρ, dI, zeroD, okEl]
    refine wloop_count ts.length (fun i => [(8, .d (.int .i64 i)), (7, .d (.int .i64 (bst now ts (L.take k) i))), (6, .own 0 0 ts.length), (5, .own 1 0 k), (1, .d (.vec (ts.map dI))), (0, .d (.int .i64 now))]) (fun _ => [.dat false 1 (tb ts.length (L.take k)), .dat false 1 ((L.take k).map dI)]) (fun i => True) trivial (Weak.sub (by simp [tget, bst])) (fun i hi _ => ?_) (fun _ => ?_)
    · have hx : ts[i]? = some ts[i] := List.getElem?_eq_getElem hi
      have htd : ts.getD i 0 = ts[i] := by rw [List.getD_eq_getElem?_getD, hx]; rfl
      have htb := tb_get (n := ts.length) (T := L.take k) hi
      have h' : ((i : Int) < (ts.length : Int)) := by omega
      have hw : IntKind.i64.wrap ((i : Int) + 1) = ((i + 1 : Nat) : Int) := by rw [wrap_in (by omega)]; omega
      have hskip : cand now ts (L.take k) i = false → bst now ts (L.take k) (i + 1) = bst now ts (L.take k) i := fun h => by simp only [bst]; rw [if_neg (by rintro ⟨h1, _⟩; rw [h] at h1; cases h1)]
      simp (maxSteps := 2000000) -implicitDefEqProofs only [zz, zE, evop, ev, ofVal, tget, tput, ok, V.isUndef, intBin, guardOf, initT, Ch.on, calleeOf, withArgs, told, xport, xports, tids, tidss, hget, hput, Blk.ice, freeze, V.cells, D.cells, V.isAgg, V.one, V.clo, clos, V.toD, loadD, structAt, eqCells, D.scalarEq, sliceOf, partsD, partsV, bound, isPtr, Blk.width, elems, lenOf, splice, D.over, resOf, resV, resVs, ↓reduceIte, reduceCtorEq, ↓reduceDIte, Nat.reduceLT, Nat.reduceEqDiff, Nat.reduceAdd, Nat.reduceSub, Nat.reduceMul, Nat.reduceLeDiff, Nat.reduceBEq, Nat.reduceBNe, Int.reduceNeg, Int.reduceAdd, Int.reduceSub, Int.reduceToNat, nilTest, shiftH, Blk.ren, V.ren, renL, initV, frameH, putL, frρ, dI, zeroD, okEl, h']
      by_cases c1 : (i : Int) ∈ L.take k
      · have f1 : decide ((i : Int) ∈ L.take k) = true := decide_eq_true c1
        refine wdraw_plan [⟨[], false, [19], [], false⟩, ⟨[], false, [18], [0], false⟩, ⟨[0, 1], true, [], [], false⟩, ⟨[0, 1, 2], true, [], [], false⟩, ⟨[0, 1, 2, 3], true, [], [], false⟩, ⟨[0, 1, 2, 3, 4], true, [], [], false⟩, ⟨[0, 1, 2, 3, 4, 5], false, [25], [], false⟩, ⟨[0, 1, 2, 3, 4, 5], false, [24], [6], false⟩, ⟨[0, 1, 2, 3, 4, 5, 6, 7], false, [], [], false⟩, ⟨[0, 1, 2, 3, 4, 5, 6, 7, 8], false, [], [], false⟩, ⟨[0, 1, 2, 3, 4, 5, 6, 7, 8, 9], false, [], [], false⟩, ⟨[0, 1, 2, 3, 4, 5, 6, 7, 8, 9, 10], true, [], [], false⟩, ⟨[0, 1, 2, 3, 4, 5, 6, 7, 8, 9, 10, 11], true, [], [], false⟩, ⟨[0, 1, 2, 3, 4, 5, 6, 7, 8, 9, 10, 11, 12], false, [32], [], false⟩, ⟨[0, 1, 2, 3, 4, 5, 6, 7, 8, 9, 10, 11, 12], false, [31], [13], false⟩, ⟨[0, 1, 2, 3, 4, 5, 6, 7, 8, 9, 10, 11, 12, 13, 14], false, [], [], false⟩, ⟨[0, 1, 2, 3, 4, 5, 6, 7, 8, 9, 10, 11, 12, 13, 14, 15], false, [], [], false⟩, ⟨[0, 1, 2, 3, 4, 5, 6, 7, 8, 9, 10, 11, 12, 13, 14, 15, 16], false, [], [], false⟩, ⟨[0, 1, 2, 3, 4, 5, 6, 7, 8, 9, 10, 11, 12, 13, 14, 15, 16, 17], true, [], [], false⟩, ⟨[0, 1, 2, 3, 4, 5, 6, 7, 8, 9, 10, 11, 12, 13, 14, 15, 16, 17, 18], true, [], [], false⟩, ⟨[0, 1, 2, 3, 4, 5, 6, 7, 8, 9, 10, 11, 12, 13, 14, 15, 16, 17, 18, 19], false, [39, 42], [], false⟩, ⟨[0, 1, 2, 3, 4, 5, 6, 7, 8, 9, 10, 11, 12, 13, 14, 15, 16, 17, 18, 19], false, [38, 42], [20], false⟩, ⟨[0, 1, 2, 3, 4, 5, 6, 7, 8, 9, 10, 11, 12, 13, 14, 15, 16, 17, 18, 19, 20, 21], false, [42], [], false⟩, ⟨[0, 1, 2, 3, 4, 5, 6, 7, 8, 9, 10, 11, 12, 13, 14, 15, 16, 17, 18, 19, 20, 21, 22], false, [42], [], false⟩, ⟨[0, 1, 2, 3, 4, 5, 6, 7, 8, 9, 10, 11, 12, 13, 14, 15, 16, 17, 18, 19], false, [38, 39, 40, 41], [20, 21, 22, 23], false⟩, ⟨[0, 1, 2, 3, 4, 5, 6, 7, 8, 9, 10, 11, 12, 13, 14, 15, 16, 17, 18, 19, 20, 21, 22, 23, 24], false, [], [], false⟩, ⟨[0, 1, 2, 3, 4, 5, 6, 7, 8, 9, 10, 11, 12, 13, 14, 15, 16, 17, 18, 19, 20, 21, 22, 23, 24, 25], true, [], [], false⟩, ⟨[0, 1, 2, 3, 4, 5, 6, 7, 8, 9, 10, 11, 12, 13, 14, 15, 16, 17, 18, 19, 20, 21, 22, 23, 24, 25, 26], true, [], [], false⟩, ⟨[0, 1, 2, 3, 4, 5, 6, 7, 8, 9, 10, 11, 12, 13, 14, 15, 16, 17, 18, 19, 20, 21, 22, 23, 24, 25, 26, 27], false, [], [], false⟩, ⟨[0, 1, 2, 3, 4, 5, 6, 7, 8, 9, 10, 11, 12, 13, 14, 15, 16, 17, 18, 19, 20, 21, 22, 23, 24, 25, 26, 27, 28], false, [], [], false⟩, ⟨[0, 1, 2, 3, 4, 5, 6, 7, 8, 9, 10, 11, 12, 13, 14, 15, 16, 17, 18, 19, 20, 21, 22, 23, 24, 25, 26, 27, 28, 29], false, [], [], false⟩, ⟨[0, 1, 2, 3, 4, 5, 6, 7, 8, 9, 10, 11, 12, 13, 14, 15, 16, 17, 18, 19, 20, 21, 22, 23, 24, 25, 26, 27, 28, 29, 30], false, [50, 53, 54, 55, 56], [], false⟩, ⟨[0, 1, 2, 3, 4, 5, 6, 7, 8, 9, 10, 11, 12, 13, 14, 15, 16, 17, 18, 19, 20, 21, 22, 23, 24, 25, 26, 27, 28, 29, 30], false, [49, 53, 54, 55, 56], [31], false⟩, ⟨[0, 1, 2, 3, 4, 5, 6, 7, 8, 9, 10, 11, 12, 13, 14, 15, 16, 17, 18, 19, 20, 21, 22, 23, 24, 25, 26, 27, 28, 29, 30, 31, 32], false, [53, 54, 55, 56], [], false⟩, ⟨[0, 1, 2, 3, 4, 5, 6, 7, 8, 9, 10, 11, 12, 13, 14, 15, 16, 17, 18, 19, 20, 21, 22, 23, 24, 25, 26, 27, 28, 29, 30, 31, 32, 33], false, [53, 54, 55, 56], [], false⟩, ⟨[0, 1, 2, 3, 4, 5, 6, 7, 8, 9, 10, 11, 12, 13, 14, 15, 16, 17, 18, 19, 20, 21, 22, 23, 24, 25, 26, 27, 28, 29, 30], false, [49, 50, 51, 52, 54], [31, 32, 33, 34], false⟩, ⟨[0, 1, 2, 3, 4, 5, 6, 7, 8, 9, 10, 11, 12, 13, 14, 15, 16, 17, 18, 19, 20, 21, 22, 23, 24, 25, 26, 27, 28, 29, 30], false, [49, 50, 51, 52, 53], [31, 32, 33, 34, 35], false⟩, ⟨[0, 1, 2, 3, 4, 5, 6, 7, 8, 9, 10, 11, 12, 13, 14, 15, 16, 17, 18, 19, 20, 21, 22, 23, 24, 25, 26, 27, 28, 29, 30, 35, 36], false, [49, 50, 51, 52], [31, 32, 33, 34], false⟩, ⟨[0, 1, 2, 3, 4, 5, 6, 7, 8, 9, 10, 11, 12, 13, 14, 15, 16, 17, 18, 19, 20, 21, 22, 23, 24, 25, 26, 27, 28, 29, 30, 35, 36, 37], false, [49, 50, 51, 52], [31, 32, 33, 34], false⟩, ⟨[0, 1, 2, 3, 4, 5, 6, 7, 8, 9, 10, 11, 12, 13, 14, 15, 16, 17, 18, 19, 20, 21, 22, 23, 24, 25, 26, 27, 28, 29, 30, 31, 32, 33, 34, 35, 36, 37, 38], false, [], [], false⟩, ⟨[0, 1, 2, 3, 4, 5, 6, 7, 8, 9, 10, 11, 12, 13, 14, 15, 16, 17, 18, 19, 20, 21, 22, 23, 24, 25, 26, 27, 28, 29, 30, 31, 32, 33, 34, 35, 36, 37, 38, 39], false, [], [], false⟩, ⟨[0, 1, 2, 3, 4, 5, 6, 7, 8, 9, 10, 11, 12, 13, 14, 15, 16, 17, 18, 19, 20, 21, 22, 23, 24, 25, 26, 27, 28, 29, 30, 31, 32, 33, 34, 35, 36, 37, 38, 39, 40], true, [], [], false⟩] (by decide) ?_
        simp (maxSteps := 2000000) -implicitDefEqProofs only [zz, zE, evop, ev, ofVal, tget, tput, ok, V.isUndef, intBin, guardOf, initT, Ch.on, calleeOf, withArgs, told, xport, xports, tids, tidss, hget, hput, Blk.ice, freeze, V.cells, D.cells, V.isAgg, V.one, V.clo, clos, V.toD, loadD, structAt, eqCells, D.scalarEq, sliceOf, partsD, partsV, bound, isPtr, Blk.width, elems, lenOf, splice, D.over, resOf, resV, resVs, ↓reduceIte, reduceCtorEq, ↓reduceDIte, Nat.reduceLT, Nat.reduceEqDiff, Nat.reduceAdd, Nat.reduceSub, Nat.reduceMul, Nat.reduceLeDiff, Nat.reduceBEq, Nat.reduceBNe, Int.reduceNeg, Int.reduceAdd, Int.reduceSub, Int.reduceToNat, nilTest, shiftH, Blk.ren, V.ren, renL, initV, frameH, putL, frρ, dI, zeroD, okEl, hx, htb, List.getElem?_map, Option.map_some, Int.natCast_nonneg, hw, f1]
        rw [hskip (by unfold cand; rw [f1]; rfl)]
        exact ⟨by omega, Weak.trims 2 rfl (by simp [tget, V.lower]) (by simp [Blk.lower])⟩
      have f1 : decide ((i : Int) ∈ L.take k) = false := decide_eq_false c1
      by_cases c2 : ¬ (ts[i] ≥ 0)
      · refine wdraw_plan [⟨[], false, [19], [], false⟩, ⟨[], false, [18], [0], false⟩, ⟨[0, 1], true, [], [], false⟩, ⟨[0, 1, 2], true, [], [], false⟩, ⟨[0, 1, 2, 3], true, [], [], false⟩, ⟨[0, 1, 2, 3, 4], true, [], [], false⟩, ⟨[0, 1, 2, 3, 4, 5], false, [25], [], false⟩, ⟨[0, 1, 2, 3, 4, 5], false, [24], [6], false⟩, ⟨[0, 1, 2, 3, 4, 5, 6, 7], false, [], [], false⟩, ⟨[0, 1, 2, 3, 4, 5, 6, 7, 8], false, [], [], false⟩, ⟨[0, 1, 2, 3, 4, 5, 6, 7, 8, 9], false, [], [], false⟩, ⟨[0, 1, 2, 3, 4, 5, 6, 7, 8, 9, 10], true, [], [], false⟩, ⟨[0, 1, 2, 3, 4, 5, 6, 7, 8, 9, 10, 11], true, [], [], false⟩, ⟨[0, 1, 2, 3, 4, 5, 6, 7, 8, 9, 10, 11, 12], false, [32], [], false⟩, ⟨[0, 1, 2, 3, 4, 5, 6, 7, 8, 9, 10, 11, 12], false, [31], [13], false⟩, ⟨[0, 1, 2, 3, 4, 5, 6, 7, 8, 9, 10, 11, 12, 13, 14], false, [], [], false⟩, ⟨[0, 1, 2, 3, 4, 5, 6, 7, 8, 9, 10, 11, 12, 13, 14, 15], false, [], [], false⟩, ⟨[0, 1, 2, 3, 4, 5, 6, 7, 8, 9, 10, 11, 12, 13, 14, 15, 16], false, [], [], false⟩, ⟨[0, 1, 2, 3, 4, 5, 6, 7, 8, 9, 10, 11, 12, 13, 14, 15, 16, 17], true, [], [], false⟩, ⟨[0, 1, 2, 3, 4, 5, 6, 7, 8, 9, 10, 11, 12, 13, 14, 15, 16, 17, 18], true, [], [], false⟩, ⟨[0, 1, 2, 3, 4, 5, 6, 7, 8, 9, 10, 11, 12, 13, 14, 15, 16, 17, 18, 19], false, [39, 42], [], false⟩, ⟨[0, 1, 2, 3, 4, 5, 6, 7, 8, 9, 10, 11, 12, 13, 14, 15, 16, 17, 18, 19], false, [38, 42], [20], false⟩, ⟨[0, 1, 2, 3, 4, 5, 6, 7, 8, 9, 10, 11, 12, 13, 14, 15, 16, 17, 18, 19, 20, 21], false, [42], [], false⟩, ⟨[0, 1, 2, 3, 4, 5, 6, 7, 8, 9, 10, 11, 12, 13, 14, 15, 16, 17, 18, 19, 20, 21, 22], false, [42], [], false⟩, ⟨[0, 1, 2, 3, 4, 5, 6, 7, 8, 9, 10, 11, 12, 13, 14, 15, 16, 17, 18, 19], false, [38, 39, 40, 41], [20, 21, 22, 23], false⟩, ⟨[0, 1, 2, 3, 4, 5, 6, 7, 8, 9, 10, 11, 12, 13, 14, 15, 16, 17, 18, 19, 20, 21, 22, 23, 24], false, [], [], false⟩, ⟨[0, 1, 2, 3, 4, 5, 6, 7, 8, 9, 10, 11, 12, 13, 14, 15, 16, 17, 18, 19, 20, 21, 22, 23, 24, 25], true, [], [], false⟩, ⟨[0, 1, 2, 3, 4, 5, 6, 7, 8, 9, 10, 11, 12, 13, 14, 15, 16, 17, 18, 19, 20, 21, 22, 23, 24, 25, 26], true, [], [], false⟩, ⟨[0, 1, 2, 3, 4, 5, 6, 7, 8, 9, 10, 11, 12, 13, 14, 15, 16, 17, 18, 19, 20, 21, 22, 23, 24, 25, 26, 27], false, [], [], false⟩, ⟨[0, 1, 2, 3, 4, 5, 6, 7, 8, 9, 10, 11, 12, 13, 14, 15, 16, 17, 18, 19, 20, 21, 22, 23, 24, 25, 26, 27, 28], false, [], [], false⟩, ⟨[0, 1, 2, 3, 4, 5, 6, 7, 8, 9, 10, 11, 12, 13, 14, 15, 16, 17, 18, 19, 20, 21, 22, 23, 24, 25, 26, 27, 28, 29], false, [], [], false⟩, ⟨[0, 1, 2, 3, 4, 5, 6, 7, 8, 9, 10, 11, 12, 13, 14, 15, 16, 17, 18, 19, 20, 21, 22, 23, 24, 25, 26, 27, 28, 29, 30], false, [50, 53, 54, 55, 56], [], false⟩, ⟨[0, 1, 2, 3, 4, 5, 6, 7, 8, 9, 10, 11, 12, 13, 14, 15, 16, 17, 18, 19, 20, 21, 22, 23, 24, 25, 26, 27, 28, 29, 30], false, [49, 53, 54, 55, 56], [31], false⟩, ⟨[0, 1, 2, 3, 4, 5, 6, 7, 8, 9, 10, 11, 12, 13, 14, 15, 16, 17, 18, 19, 20, 21, 22, 23, 24, 25, 26, 27, 28, 29, 30, 31, 32], false, [53, 54, 55, 56], [], false⟩, ⟨[0, 1, 2, 3, 4, 5, 6, 7, 8, 9, 10, 11, 12, 13, 14, 15, 16, 17, 18, 19, 20, 21, 22, 23, 24, 25, 26, 27, 28, 29, 30, 31, 32, 33], false, [53, 54, 55, 56], [], false⟩, ⟨[0, 1, 2, 3, 4, 5, 6, 7, 8, 9, 10, 11, 12, 13, 14, 15, 16, 17, 18, 19, 20, 21, 22, 23, 24, 25, 26, 27, 28, 29, 30], false, [49, 50, 51, 52, 54], [31, 32, 33, 34], false⟩, ⟨[0, 1, 2, 3, 4, 5, 6, 7, 8, 9, 10, 11, 12, 13, 14, 15, 16, 17, 18, 19, 20, 21, 22, 23, 24, 25, 26, 27, 28, 29, 30], false, [49, 50, 51, 52, 53], [31, 32, 33, 34, 35], false⟩, ⟨[0, 1, 2, 3, 4, 5, 6, 7, 8, 9, 10, 11, 12, 13, 14, 15, 16, 17, 18, 19, 20, 21, 22, 23, 24, 25, 26, 27, 28, 29, 30, 35, 36], false, [49, 50, 51, 52], [31, 32, 33, 34], false⟩, ⟨[0, 1, 2, 3, 4, 5, 6, 7, 8, 9, 10, 11, 12, 13, 14, 15, 16, 17, 18, 19, 20, 21, 22, 23, 24, 25, 26, 27, 28, 29, 30, 35, 36, 37], false, [49, 50, 51, 52], [31, 32, 33, 34], false⟩, ⟨[0, 1, 2, 3, 4, 5, 6, 7, 8, 9, 10, 11, 12, 13, 14, 15, 16, 17, 18, 19, 20, 21, 22, 23, 24, 25, 26, 27, 28, 29, 30, 31, 32, 33, 34, 35, 36, 37, 38], false, [], [], false⟩, ⟨[0, 1, 2, 3, 4, 5, 6, 7, 8, 9, 10, 11, 12, 13, 14, 15, 16, 17, 18, 19, 20, 21, 22, 23, 24, 25, 26, 27, 28, 29, 30, 31, 32, 33, 34, 35, 36, 37, 38, 39], false, [], [], false⟩, ⟨[0, 1, 2, 3, 4, 5, 6, 7, 8, 9, 10, 11, 12, 13, 14, 15, 16, 17, 18, 19, 20, 21, 22, 23, 24, 25, 26, 27, 28, 29, 30, 31, 32, 33, 34, 35, 36, 37, 38, 39, 40], true, [], [], false⟩] (by decide) ?_
        simp (maxSteps := 2000000) -implicitDefEqProofs only [zz, zE, evop, ev, ofVal, tget, tput, ok, V.isUndef, intBin, guardOf, initT, Ch.on, calleeOf, withArgs, told, xport, xports, tids, tidss, hget, hput, Blk.ice, freeze, V.cells, D.cells, V.isAgg, V.one, V.clo, clos, V.toD, loadD, structAt, eqCells, D.scalarEq, sliceOf, partsD, partsV, bound, isPtr, Blk.width, elems, lenOf, splice, D.over, resOf, resV, resVs, ↓reduceIte, reduceCtorEq, ↓reduceDIte, Nat.reduceLT, Nat.reduceEqDiff, Nat.reduceAdd, Nat.reduceSub, Nat.reduceMul, Nat.reduceLeDiff, Nat.reduceBEq, Nat.reduceBNe, Int.reduceNeg, Int.reduceAdd, Int.reduceSub, Int.reduceToNat, nilTest, shiftH, Blk.ren, V.ren, renL, initV, frameH, putL, frρ, dI, zeroD, okEl, hx, htb, List.getElem?_map, Option.map_some, Int.natCast_nonneg, hw, f1, c2]
        rw [hskip (by unfold cand dueB tickR; rw [htd, decide_eq_false (show ¬ 0 ≤ ts[i] from c2)]; simp)]
        exact ⟨by omega, Weak.trims 2 rfl (by simp [tget, V.lower]) (by simp [Blk.lower])⟩
      have c2 := Classical.not_not.1 c2
      by_cases c3 : ¬ (ts[i] ≤ 2147483647)
      · refine wdraw_plan [⟨[], false, [19], [], false⟩, ⟨[], false, [18], [0], false⟩, ⟨[0, 1], true, [], [], false⟩, ⟨[0, 1, 2], true, [], [], false⟩, ⟨[0, 1, 2, 3], true, [], [], false⟩, ⟨[0, 1, 2, 3, 4], true, [], [], false⟩, ⟨[0, 1, 2, 3, 4, 5], false, [25], [], false⟩, ⟨[0, 1, 2, 3, 4, 5], false, [24], [6], false⟩, ⟨[0, 1, 2, 3, 4, 5, 6, 7], false, [], [], false⟩, ⟨[0, 1, 2, 3, 4, 5, 6, 7, 8], false, [], [], false⟩, ⟨[0, 1, 2, 3, 4, 5, 6, 7, 8, 9], false, [], [], false⟩, ⟨[0, 1, 2, 3, 4, 5, 6, 7, 8, 9, 10], true, [], [], false⟩, ⟨[0, 1, 2, 3, 4, 5, 6, 7, 8, 9, 10, 11], true, [], [], false⟩, ⟨[0, 1, 2, 3, 4, 5, 6, 7, 8, 9, 10, 11, 12], false, [32], [], false⟩, ⟨[0, 1, 2, 3, 4, 5, 6, 7, 8, 9, 10, 11, 12], false, [31], [13], false⟩, ⟨[0, 1, 2, 3, 4, 5, 6, 7, 8, 9, 10, 11, 12, 13, 14], false, [], [], false⟩, ⟨[0, 1, 2, 3, 4, 5, 6, 7, 8, 9, 10, 11, 12, 13, 14, 15], false, [], [], false⟩, ⟨[0, 1, 2, 3, 4, 5, 6, 7, 8, 9, 10, 11, 12, 13, 14, 15, 16], false, [], [], false⟩, ⟨[0, 1, 2, 3, 4, 5, 6, 7, 8, 9, 10, 11, 12, 13, 14, 15, 16, 17], true, [], [], false⟩, ⟨[0, 1, 2, 3, 4, 5, 6, 7, 8, 9, 10, 11, 12, 13, 14, 15, 16, 17, 18], true, [], [], false⟩, ⟨[0, 1, 2, 3, 4, 5, 6, 7, 8, 9, 10, 11, 12, 13, 14, 15, 16, 17, 18, 19], false, [39, 42], [], false⟩, ⟨[0, 1, 2, 3, 4, 5, 6, 7, 8, 9, 10, 11, 12, 13, 14, 15, 16, 17, 18, 19], false, [38, 42], [20], false⟩, ⟨[0, 1, 2, 3, 4, 5, 6, 7, 8, 9, 10, 11, 12, 13, 14, 15, 16, 17, 18, 19, 20, 21], false, [42], [], false⟩, ⟨[0, 1, 2, 3, 4, 5, 6, 7, 8, 9, 10, 11, 12, 13, 14, 15, 16, 17, 18, 19, 20, 21, 22], false, [42], [], false⟩, ⟨[0, 1, 2, 3, 4, 5, 6, 7, 8, 9, 10, 11, 12, 13, 14, 15, 16, 17, 18, 19], false, [38, 39, 40, 41], [20, 21, 22, 23], false⟩, ⟨[0, 1, 2, 3, 4, 5, 6, 7, 8, 9, 10, 11, 12, 13, 14, 15, 16, 17, 18, 19, 20, 21, 22, 23, 24], false, [], [], false⟩, ⟨[0, 1, 2, 3, 4, 5, 6, 7, 8, 9, 10, 11, 12, 13, 14, 15, 16, 17, 18, 19, 20, 21, 22, 23, 24, 25], true, [], [], false⟩, ⟨[0, 1, 2, 3, 4, 5, 6, 7, 8, 9, 10, 11, 12, 13, 14, 15, 16, 17, 18, 19, 20, 21, 22, 23, 24, 25, 26], true, [], [], false⟩, ⟨[0, 1, 2, 3, 4, 5, 6, 7, 8, 9, 10, 11, 12, 13, 14, 15, 16, 17, 18, 19, 20, 21, 22, 23, 24, 25, 26, 27], false, [], [], false⟩, ⟨[0, 1, 2, 3, 4, 5, 6, 7, 8, 9, 10, 11, 12, 13, 14, 15, 16, 17, 18, 19, 20, 21, 22, 23, 24, 25, 26, 27, 28], false, [], [], false⟩, ⟨[0, 1, 2, 3, 4, 5, 6, 7, 8, 9, 10, 11, 12, 13, 14, 15, 16, 17, 18, 19, 20, 21, 22, 23, 24, 25, 26, 27, 28, 29], false, [], [], false⟩, ⟨[0, 1, 2, 3, 4, 5, 6, 7, 8, 9, 10, 11, 12, 13, 14, 15, 16, 17, 18, 19, 20, 21, 22, 23, 24, 25, 26, 27, 28, 29, 30], false, [50, 53, 54, 55, 56], [], false⟩, ⟨[0, 1, 2, 3, 4, 5, 6, 7, 8, 9, 10, 11, 12, 13, 14, 15, 16, 17, 18, 19, 20, 21, 22, 23, 24, 25, 26, 27, 28, 29, 30], false, [49, 53, 54, 55, 56], [31], false⟩, ⟨[0, 1, 2, 3, 4, 5, 6, 7, 8, 9, 10, 11, 12, 13, 14, 15, 16, 17, 18, 19, 20, 21, 22, 23, 24, 25, 26, 27, 28, 29, 30, 31, 32], false, [53, 54, 55, 56], [], false⟩, ⟨[0, 1, 2, 3, 4, 5, 6, 7, 8, 9, 10, 11, 12, 13, 14, 15, 16, 17, 18, 19, 20, 21, 22, 23, 24, 25, 26, 27, 28, 29, 30, 31, 32, 33], false, [53, 54, 55, 56], [], false⟩, ⟨[0, 1, 2, 3, 4, 5, 6, 7, 8, 9, 10, 11, 12, 13, 14, 15, 16, 17, 18, 19, 20, 21, 22, 23, 24, 25, 26, 27, 28, 29, 30], false, [49, 50, 51, 52, 54], [31, 32, 33, 34], false⟩, ⟨[0, 1, 2, 3, 4, 5, 6, 7, 8, 9, 10, 11, 12, 13, 14, 15, 16, 17, 18, 19, 20, 21, 22, 23, 24, 25, 26, 27, 28, 29, 30], false, [49, 50, 51, 52, 53], [31, 32, 33, 34, 35], false⟩, ⟨[0, 1, 2, 3, 4, 5, 6, 7, 8, 9, 10, 11, 12, 13, 14, 15, 16, 17, 18, 19, 20, 21, 22, 23, 24, 25, 26, 27, 28, 29, 30, 35, 36], false, [49, 50, 51, 52], [31, 32, 33, 34], false⟩, ⟨[0, 1, 2, 3, 4, 5, 6, 7, 8, 9, 10, 11, 12, 13, 14, 15, 16, 17, 18, 19, 20, 21, 22, 23, 24, 25, 26, 27, 28, 29, 30, 35, 36, 37], false, [49, 50, 51, 52], [31, 32, 33, 34], false⟩, ⟨[0, 1, 2, 3, 4, 5, 6, 7, 8, 9, 10, 11, 12, 13, 14, 15, 16, 17, 18, 19, 20, 21, 22, 23, 24, 25, 26, 27, 28, 29, 30, 31, 32, 33, 34, 35, 36, 37, 38], false, [], [], false⟩, ⟨[0, 1, 2, 3, 4, 5, 6, 7, 8, 9, 10, 11, 12, 13, 14, 15, 16, 17, 18, 19, 20, 21, 22, 23, 24, 25, 26, 27, 28, 29, 30, 31, 32, 33, 34, 35, 36, 37, 38, 39], false, [], [], false⟩, ⟨[0, 1, 2, 3, 4, 5, 6, 7, 8, 9, 10, 11, 12, 13, 14, 15, 16, 17, 18, 19, 20, 21, 22, 23, 24, 25, 26, 27, 28, 29, 30, 31, 32, 33, 34, 35, 36, 37, 38, 39, 40], true, [], [], false⟩] (by decide) ?_
        simp (maxSteps := 2000000) -implicitDefEqProofs only [zz, zE, evop, ev, ofVal, tget, tput, ok, V.isUndef, intBin, guardOf, initT, Ch.on, calleeOf, withArgs, told, xport, xports, tids, tidss, hget, hput, Blk.ice, freeze, V.cells, D.cells, V.isAgg, V.one, V.clo, clos, V.toD, loadD, structAt, eqCells, D.scalarEq, sliceOf, partsD, partsV, bound, isPtr, Blk.width, elems, lenOf, splice, D.over, resOf, resV, resVs, ↓reduceIte, reduceCtorEq, ↓reduceDIte, Nat.reduceLT, Nat.reduceEqDiff, Nat.reduceAdd, Nat.reduceSub, Nat.reduceMul, Nat.reduceLeDiff, Nat.reduceBEq, Nat.reduceBNe, Int.reduceNeg, Int.reduceAdd, Int.reduceSub, Int.reduceToNat, nilTest, shiftH, Blk.ren, V.ren, renL, initV, frameH, putL, frρ, dI, zeroD, okEl, hx, htb, List.getElem?_map, Option.map_some, Int.natCast_nonneg, hw, f1, c2, c3]
        rw [hskip (by unfold cand dueB tickR; rw [htd, decide_eq_false c3]; simp)]
        exact ⟨by omega, Weak.trims 2 rfl (by simp [tget, V.lower]) (by simp [Blk.lower])⟩
      have c3 := Classical.not_not.1 c3
      by_cases c4 : ¬ (ts[i] ≤ now)
      · refine wdraw_plan [⟨[], false, [19], [], false⟩, ⟨[], false, [18], [0], false⟩, ⟨[0, 1], true, [], [], false⟩, ⟨[0, 1, 2], true, [], [], false⟩, ⟨[0, 1, 2, 3], true, [], [], false⟩, ⟨[0, 1, 2, 3, 4], true, [], [], false⟩, ⟨[0, 1, 2, 3, 4, 5], false, [25], [], false⟩, ⟨[0, 1, 2, 3, 4, 5], false, [24], [6], false⟩, ⟨[0, 1, 2, 3, 4, 5, 6, 7], false, [], [], false⟩, ⟨[0, 1, 2, 3, 4, 5, 6, 7, 8], false, [], [], false⟩, ⟨[0, 1, 2, 3, 4, 5, 6, 7, 8, 9], false, [], [], false⟩, ⟨[0, 1, 2, 3, 4, 5, 6, 7, 8, 9, 10], true, [], [], false⟩, ⟨[0, 1, 2, 3, 4, 5, 6, 7, 8, 9, 10, 11], true, [], [], false⟩, ⟨[0, 1, 2, 3, 4, 5, 6, 7, 8, 9, 10, 11, 12], false, [32], [], false⟩, ⟨[0, 1, 2, 3, 4, 5, 6, 7, 8, 9, 10, 11, 12], false, [31], [13], false⟩, ⟨[0, 1, 2, 3, 4, 5, 6, 7, 8, 9, 10, 11, 12, 13, 14], false, [], [], false⟩, ⟨[0, 1, 2, 3, 4, 5, 6, 7, 8, 9, 10, 11, 12, 13, 14, 15], false, [], [], false⟩, ⟨[0, 1, 2, 3, 4, 5, 6, 7, 8, 9, 10, 11, 12, 13, 14, 15, 16], false, [], [], false⟩, ⟨[0, 1, 2, 3, 4, 5, 6, 7, 8, 9, 10, 11, 12, 13, 14, 15, 16, 17], true, [], [], false⟩, ⟨[0, 1, 2, 3, 4, 5, 6, 7, 8, 9, 10, 11, 12, 13, 14, 15, 16, 17, 18], true, [], [], false⟩, ⟨[0, 1, 2, 3, 4, 5, 6, 7, 8, 9, 10, 11, 12, 13, 14, 15, 16, 17, 18, 19], false, [39, 42], [], false⟩, ⟨[0, 1, 2, 3, 4, 5, 6, 7, 8, 9, 10, 11, 12, 13, 14, 15, 16, 17, 18, 19], false, [38, 42], [20], false⟩, ⟨[0, 1, 2, 3, 4, 5, 6, 7, 8, 9, 10, 11, 12, 13, 14, 15, 16, 17, 18, 19, 20, 21], false, [42], [], false⟩, ⟨[0, 1, 2, 3, 4, 5, 6, 7, 8, 9, 10, 11, 12, 13, 14, 15, 16, 17, 18, 19, 20, 21, 22], false, [42], [], false⟩, ⟨[0, 1, 2, 3, 4, 5, 6, 7, 8, 9, 10, 11, 12, 13, 14, 15, 16, 17, 18, 19], false, [38, 39, 40, 41], [20, 21, 22, 23], false⟩, ⟨[0, 1, 2, 3, 4, 5, 6, 7, 8, 9, 10, 11, 12, 13, 14, 15, 16, 17, 18, 19, 20, 21, 22, 23, 24], false, [], [], false⟩, ⟨[0, 1, 2, 3, 4, 5, 6, 7, 8, 9, 10, 11, 12, 13, 14, 15, 16, 17, 18, 19, 20, 21, 22, 23, 24, 25], true, [], [], false⟩, ⟨[0, 1, 2, 3, 4, 5, 6, 7, 8, 9, 10, 11, 12, 13, 14, 15, 16, 17, 18, 19, 20, 21, 22, 23, 24, 25, 26], true, [], [], false⟩, ⟨[0, 1, 2, 3, 4, 5, 6, 7, 8, 9, 10, 11, 12, 13, 14, 15, 16, 17, 18, 19, 20, 21, 22, 23, 24, 25, 26, 27], false, [], [], false⟩, ⟨[0, 1, 2, 3, 4, 5, 6, 7, 8, 9, 10, 11, 12, 13, 14, 15, 16, 17, 18, 19, 20, 21, 22, 23, 24, 25, 26, 27, 28], false, [], [], false⟩, ⟨[0, 1, 2, 3, 4, 5, 6, 7, 8, 9, 10, 11, 12, 13, 14, 15, 16, 17, 18, 19, 20, 21, 22, 23, 24, 25, 26, 27, 28, 29], false, [], [], false⟩, ⟨[0, 1, 2, 3, 4, 5, 6, 7, 8, 9, 10, 11, 12, 13, 14, 15, 16, 17, 18, 19, 20, 21, 22, 23, 24, 25, 26, 27, 28, 29, 30], false, [50, 53, 54, 55, 56], [], false⟩, ⟨[0, 1, 2, 3, 4, 5, 6, 7, 8, 9, 10, 11, 12, 13, 14, 15, 16, 17, 18, 19, 20, 21, 22, 23, 24, 25, 26, 27, 28, 29, 30], false, [49, 53, 54, 55, 56], [31], false⟩, ⟨[0, 1, 2, 3, 4, 5, 6, 7, 8, 9, 10, 11, 12, 13, 14, 15, 16, 17, 18, 19, 20, 21, 22, 23, 24, 25, 26, 27, 28, 29, 30, 31, 32], false, [53, 54, 55, 56], [], false⟩, ⟨[0, 1, 2, 3, 4, 5, 6, 7, 8, 9, 10, 11, 12, 13, 14, 15, 16, 17, 18, 19, 20, 21, 22, 23, 24, 25, 26, 27, 28, 29, 30, 31, 32, 33], false, [53, 54, 55, 56], [], false⟩, ⟨[0, 1, 2, 3, 4, 5, 6, 7, 8, 9, 10, 11, 12, 13, 14, 15, 16, 17, 18, 19, 20, 21, 22, 23, 24, 25, 26, 27, 28, 29, 30], false, [49, 50, 51, 52, 54], [31, 32, 33, 34], false⟩, ⟨[0, 1, 2, 3, 4, 5, 6, 7, 8, 9, 10, 11, 12, 13, 14, 15, 16, 17, 18, 19, 20, 21, 22, 23, 24, 25, 26, 27, 28, 29, 30], false, [49, 50, 51, 52, 53], [31, 32, 33, 34, 35], false⟩, ⟨[0, 1, 2, 3, 4, 5, 6, 7, 8, 9, 10, 11, 12, 13, 14, 15, 16, 17, 18, 19, 20, 21, 22, 23, 24, 25, 26, 27, 28, 29, 30, 35, 36], false, [49, 50, 51, 52], [31, 32, 33, 34], false⟩, ⟨[0, 1, 2, 3, 4, 5, 6, 7, 8, 9, 10, 11, 12, 13, 14, 15, 16, 17, 18, 19, 20, 21, 22, 23, 24, 25, 26, 27, 28, 29, 30, 35, 36, 37], false, [49, 50, 51, 52], [31, 32, 33, 34], false⟩, ⟨[0, 1, 2, 3, 4, 5, 6, 7, 8, 9, 10, 11, 12, 13, 14, 15, 16, 17, 18, 19, 20, 21, 22, 23, 24, 25, 26, 27, 28, 29, 30, 31, 32, 33, 34, 35, 36, 37, 38], false, [], [], false⟩, ⟨[0, 1, 2, 3, 4, 5, 6, 7, 8, 9, 10, 11, 12, 13, 14, 15, 16, 17, 18, 19, 20, 21, 22, 23, 24, 25, 26, 27, 28, 29, 30, 31, 32, 33, 34, 35, 36, 37, 38, 39], false, [], [], false⟩, ⟨[0, 1, 2, 3, 4, 5, 6, 7, 8, 9, 10, 11, 12, 13, 14, 15, 16, 17, 18, 19, 20, 21, 22, 23, 24, 25, 26, 27, 28, 29, 30, 31, 32, 33, 34, 35, 36, 37, 38, 39, 40], true, [], [], false⟩] (by decide) ?_
        simp (maxSteps := 2000000) -implicitDefEqProofs only [zz, zE, evop, ev, ofVal, tget, tput, ok, V.isUndef, intBin, guardOf, initT, Ch.on, calleeOf, withArgs, told, xport, xports, tids, tidss, hget, hput, Blk.ice, freeze, V.cells, D.cells, V.isAgg, V.one, V.clo, clos, V.toD, loadD, structAt, eqCells, D.scalarEq, sliceOf, partsD, partsV, bound, isPtr, Blk.width, elems, lenOf, splice, D.over, resOf, resV, resVs, ↓reduceIte, reduceCtorEq, ↓reduceDIte, Nat.reduceLT, Nat.reduceEqDiff, Nat.reduceAdd, Nat.reduceSub, Nat.reduceMul, Nat.reduceLeDiff, Nat.reduceBEq, Nat.reduceBNe, Int.reduceNeg, Int.reduceAdd, Int.reduceSub, Int.reduceToNat, nilTest, shiftH, Blk.ren, V.ren, renL, initV, frameH, putL, frρ, dI, zeroD, okEl, hx, htb, List.getElem?_map, Option.map_some, Int.natCast_nonneg, hw, f1, c2, c3, c4]
        rw [hskip (by unfold cand dueB tickR; rw [htd, decide_eq_false c4]; simp)]
        exact ⟨by omega, Weak.trims 2 rfl (by simp [tget, V.lower]) (by simp [Blk.lower])⟩
      have c4 := Classical.not_not.1 c4
      have hc : cand now ts (L.take k) i = true := by
        unfold cand dueB tickR
        rw [htd, f1, decide_eq_true (show 0 ≤ ts[i] from c2), decide_eq_true c3, decide_eq_true c4]; rfl
      rcases bst_spec now ts (L.take k) i with ⟨b1, b2⟩ | ⟨b, b1, b2, b3, b4⟩
      · have e : bst now ts (L.take k) (i + 1) = i := by simp only [bst]; rw [if_pos ⟨hc, .inl (by rw [b1]; decide)⟩]
        have f2 : ((-1 : Int) < 0) := by decide
        rw [b1]
        refine wdraw_plan [⟨[], false, [19], [], false⟩, ⟨[], false, [18], [0], false⟩, ⟨[0, 1], true, [], [], false⟩, ⟨[0, 1, 2], true, [], [], false⟩, ⟨[0, 1, 2, 3], true, [], [], false⟩, ⟨[0, 1, 2, 3, 4], true, [], [], false⟩, ⟨[0, 1, 2, 3, 4, 5], false, [25], [], false⟩, ⟨[0, 1, 2, 3, 4, 5], false, [24], [6], false⟩, ⟨[0, 1, 2, 3, 4, 5, 6, 7], false, [], [], false⟩, ⟨[0, 1, 2, 3, 4, 5, 6, 7, 8], false, [], [], false⟩, ⟨[0, 1, 2, 3, 4, 5, 6, 7, 8, 9], false, [], [], false⟩, ⟨[0, 1, 2, 3, 4, 5, 6, 7, 8, 9, 10], true, [], [], false⟩, ⟨[0, 1, 2, 3, 4, 5, 6, 7, 8, 9, 10, 11], true, [], [], false⟩, ⟨[0, 1, 2, 3, 4, 5, 6, 7, 8, 9, 10, 11, 12], false, [32], [], false⟩, ⟨[0, 1, 2, 3, 4, 5, 6, 7, 8, 9, 10, 11, 12], false, [31], [13], false⟩, ⟨[0, 1, 2, 3, 4, 5, 6, 7, 8, 9, 10, 11, 12, 13, 14], false, [], [], false⟩, ⟨[0, 1, 2, 3, 4, 5, 6, 7, 8, 9, 10, 11, 12, 13, 14, 15], false, [], [], false⟩, ⟨[0, 1, 2, 3, 4, 5, 6, 7, 8, 9, 10, 11, 12, 13, 14, 15, 16], false, [], [], false⟩, ⟨[0, 1, 2, 3, 4, 5, 6, 7, 8, 9, 10, 11, 12, 13, 14, 15, 16, 17], true, [], [], false⟩, ⟨[0, 1, 2, 3, 4, 5, 6, 7, 8, 9, 10, 11, 12, 13, 14, 15, 16, 17, 18], true, [], [], false⟩, ⟨[0, 1, 2, 3, 4, 5, 6, 7, 8, 9, 10, 11, 12, 13, 14, 15, 16, 17, 18, 19], false, [39, 42], [], false⟩, ⟨[0, 1, 2, 3, 4, 5, 6, 7, 8, 9, 10, 11, 12, 13, 14, 15, 16, 17, 18, 19], false, [38, 42], [20], false⟩, ⟨[0, 1, 2, 3, 4, 5, 6, 7, 8, 9, 10, 11, 12, 13, 14, 15, 16, 17, 18, 19, 20, 21], false, [42], [], false⟩, ⟨[0, 1, 2, 3, 4, 5, 6, 7, 8, 9, 10, 11, 12, 13, 14, 15, 16, 17, 18, 19, 20, 21, 22], false, [42], [], false⟩, ⟨[0, 1, 2, 3, 4, 5, 6, 7, 8, 9, 10, 11, 12, 13, 14, 15, 16, 17, 18, 19], false, [38, 39, 40, 41], [20, 21, 22, 23], false⟩, ⟨[0, 1, 2, 3, 4, 5, 6, 7, 8, 9, 10, 11, 12, 13, 14, 15, 16, 17, 18, 19, 20, 21, 22, 23, 24], false, [], [], false⟩, ⟨[0, 1, 2, 3, 4, 5, 6, 7, 8, 9, 10, 11, 12, 13, 14, 15, 16, 17, 18, 19, 20, 21, 22, 23, 24, 25], true, [], [], false⟩, ⟨[0, 1, 2, 3, 4, 5, 6, 7, 8, 9, 10, 11, 12, 13, 14, 15, 16, 17, 18, 19, 20, 21, 22, 23, 24, 25, 26], true, [], [], false⟩, ⟨[0, 1, 2, 3, 4, 5, 6, 7, 8, 9, 10, 11, 12, 13, 14, 15, 16, 17, 18, 19, 20, 21, 22, 23, 24, 25, 26, 27], false, [], [], false⟩, ⟨[0, 1, 2, 3, 4, 5, 6, 7, 8, 9, 10, 11, 12, 13, 14, 15, 16, 17, 18, 19, 20, 21, 22, 23, 24, 25, 26, 27, 28], false, [], [], false⟩, ⟨[0, 1, 2, 3, 4, 5, 6, 7, 8, 9, 10, 11, 12, 13, 14, 15, 16, 17, 18, 19, 20, 21, 22, 23, 24, 25, 26, 27, 28, 29], false, [], [], false⟩, ⟨[0, 1, 2, 3, 4, 5, 6, 7, 8, 9, 10, 11, 12, 13, 14, 15, 16, 17, 18, 19, 20, 21, 22, 23, 24, 25, 26, 27, 28, 29, 30], false, [50, 53, 54, 55, 56], [], false⟩, ⟨[0, 1, 2, 3, 4, 5, 6, 7, 8, 9, 10, 11, 12, 13, 14, 15, 16, 17, 18, 19, 20, 21, 22, 23, 24, 25, 26, 27, 28, 29, 30], false, [49, 53, 54, 55, 56], [31], false⟩, ⟨[0, 1, 2, 3, 4, 5, 6, 7, 8, 9, 10, 11, 12, 13, 14, 15, 16, 17, 18, 19, 20, 21, 22, 23, 24, 25, 26, 27, 28, 29, 30, 31, 32], false, [53, 54, 55, 56], [], false⟩, ⟨[0, 1, 2, 3, 4, 5, 6, 7, 8, 9, 10, 11, 12, 13, 14, 15, 16, 17, 18, 19, 20, 21, 22, 23, 24, 25, 26, 27, 28, 29, 30, 31, 32, 33], false, [53, 54, 55, 56], [], false⟩, ⟨[0, 1, 2, 3, 4, 5, 6, 7, 8, 9, 10, 11, 12, 13, 14, 15, 16, 17, 18, 19, 20, 21, 22, 23, 24, 25, 26, 27, 28, 29, 30], false, [49, 50, 51, 52, 54], [31, 32, 33, 34], false⟩, ⟨[0, 1, 2, 3, 4, 5, 6, 7, 8, 9, 10, 11, 12, 13, 14, 15, 16, 17, 18, 19, 20, 21, 22, 23, 24, 25, 26, 27, 28, 29, 30], false, [49, 50, 51, 52, 53], [31, 32, 33, 34, 35], false⟩, ⟨[0, 1, 2, 3, 4, 5, 6, 7, 8, 9, 10, 11, 12, 13, 14, 15, 16, 17, 18, 19, 20, 21, 22, 23, 24, 25, 26, 27, 28, 29, 30, 35, 36], false, [49, 50, 51, 52], [31, 32, 33, 34], false⟩, ⟨[0, 1, 2, 3, 4, 5, 6, 7, 8, 9, 10, 11, 12, 13, 14, 15, 16, 17, 18, 19, 20, 21, 22, 23, 24, 25, 26, 27, 28, 29, 30, 35, 36, 37], false, [49, 50, 51, 52], [31, 32, 33, 34], false⟩, ⟨[0, 1, 2, 3, 4, 5, 6, 7, 8, 9, 10, 11, 12, 13, 14, 15, 16, 17, 18, 19, 20, 21, 22, 23, 24, 25, 26, 27, 28, 29, 30, 31, 32, 33, 34, 35, 36, 37, 38], false, [], [], false⟩, ⟨[0, 1, 2, 3, 4, 5, 6, 7, 8, 9, 10, 11, 12, 13, 14, 15, 16, 17, 18, 19, 20, 21, 22, 23, 24, 25, 26, 27, 28, 29, 30, 31, 32, 33, 34, 35, 36, 37, 38, 39], false, [], [], false⟩, ⟨[0, 1, 2, 3, 4, 5, 6, 7, 8, 9, 10, 11, 12, 13, 14, 15, 16, 17, 18, 19, 20, 21, 22, 23, 24, 25, 26, 27, 28, 29, 30, 31, 32, 33, 34, 35, 36, 37, 38, 39, 40], true, [], [], false⟩] (by decide) ?_
        simp (maxSteps := 2000000) -implicitDefEqProofs only [zz, zE, evop, ev, ofVal, tget, tput, ok, V.isUndef, intBin, guardOf, initT, Ch.on, calleeOf, withArgs, told, xport, xports, tids, tidss, hget, hput, Blk.ice, freeze, V.cells, D.cells, V.isAgg, V.one, V.clo, clos, V.toD, loadD, structAt, eqCells, D.scalarEq, sliceOf, partsD, partsV, bound, isPtr, Blk.width, elems, lenOf, splice, D.over, resOf, resV, resVs, ↓reduceIte, reduceCtorEq, ↓reduceDIte, Nat.reduceLT, Nat.reduceEqDiff, Nat.reduceAdd, Nat.reduceSub, Nat.reduceMul, Nat.reduceLeDiff, Nat.reduceBEq, Nat.reduceBNe, Int.reduceNeg, Int.reduceAdd, Int.reduceSub, Int.reduceToNat, nilTest, shiftH, Blk.ren, V.ren, renL, initV, frameH, putL, frρ, dI, zeroD, okEl, hx, htb, List.getElem?_map, Option.map_some, Int.natCast_nonneg, hw, f1, c2, c3, c4, f2]
        rw [e]
        exact ⟨by omega, Weak.trims 2 rfl (by simp [tget, V.lower]) (by simp [Blk.lower])⟩
      · have hxb : ts[b]? = some ts[b] := List.getElem?_eq_getElem (by omega)
        have htdb : ts.getD b 0 = ts[b] := by rw [List.getD_eq_getElem?_getD, hxb]; rfl
        have f2 : ¬ ((b : Int) < 0) := by omega
        rw [b1]
        by_cases c5 : ts[i] < ts[b]
        · have e : bst now ts (L.take k) (i + 1) = i := by simp only [bst]; rw [b1, Int.toNat_natCast, if_pos ⟨hc, .inr (by rw [htd, htdb]; exact c5)⟩]
          refine wdraw_plan [⟨[], false, [19], [], false⟩, ⟨[], false, [18], [0], false⟩, ⟨[0, 1], true, [], [], false⟩, ⟨[0, 1, 2], true, [], [], false⟩, ⟨[0, 1, 2, 3], true, [], [], false⟩, ⟨[0, 1, 2, 3, 4], true, [], [], false⟩, ⟨[0, 1, 2, 3, 4, 5], false, [25], [], false⟩, ⟨[0, 1, 2, 3, 4, 5], false, [24], [6], false⟩, ⟨[0, 1, 2, 3, 4, 5, 6, 7], false, [], [], false⟩, ⟨[0, 1, 2, 3, 4, 5, 6, 7, 8], false, [], [], false⟩, ⟨[0, 1, 2, 3, 4, 5, 6, 7, 8, 9], false, [], [], false⟩, ⟨[0, 1, 2, 3, 4, 5, 6, 7, 8, 9, 10], true, [], [], false⟩, ⟨[0, 1, 2, 3, 4, 5, 6, 7, 8, 9, 10, 11], true, [], [], false⟩, ⟨[0, 1, 2, 3, 4, 5, 6, 7, 8, 9, 10, 11, 12], false, [32], [], false⟩, ⟨[0, 1, 2, 3, 4, 5, 6, 7, 8, 9, 10, 11, 12], false, [31], [13], false⟩, ⟨[0, 1, 2, 3, 4, 5, 6, 7, 8, 9, 10, 11, 12, 13, 14], false, [], [], false⟩, ⟨[0, 1, 2, 3, 4, 5, 6, 7, 8, 9, 10, 11, 12, 13, 14, 15], false, [], [], false⟩, ⟨[0, 1, 2, 3, 4, 5, 6, 7, 8, 9, 10, 11, 12, 13, 14, 15, 16], false, [], [], false⟩, ⟨[0, 1, 2, 3, 4, 5, 6, 7, 8, 9, 10, 11, 12, 13, 14, 15, 16, 17], true, [], [], false⟩, ⟨[0, 1, 2, 3, 4, 5, 6, 7, 8, 9, 10, 11, 12, 13, 14, 15, 16, 17, 18], true, [], [], false⟩, ⟨[0, 1, 2, 3, 4, 5, 6, 7, 8, 9, 10, 11, 12, 13, 14, 15, 16, 17, 18, 19], false, [39, 42], [], false⟩, ⟨[0, 1, 2, 3, 4, 5, 6, 7, 8, 9, 10, 11, 12, 13, 14, 15, 16, 17, 18, 19], false, [38, 42], [20], false⟩, ⟨[0, 1, 2, 3, 4, 5, 6, 7, 8, 9, 10, 11, 12, 13, 14, 15, 16, 17, 18, 19, 20, 21], false, [42], [], false⟩, ⟨[0, 1, 2, 3, 4, 5, 6, 7, 8, 9, 10, 11, 12, 13, 14, 15, 16, 17, 18, 19, 20, 21, 22], false, [42], [], false⟩, ⟨[0, 1, 2, 3, 4, 5, 6, 7, 8, 9, 10, 11, 12, 13, 14, 15, 16, 17, 18, 19], false, [38, 39, 40, 41], [20, 21, 22, 23], false⟩, ⟨[0, 1, 2, 3, 4, 5, 6, 7, 8, 9, 10, 11, 12, 13, 14, 15, 16, 17, 18, 19, 20, 21, 22, 23, 24], false, [], [], false⟩, ⟨[0, 1, 2, 3, 4, 5, 6, 7, 8, 9, 10, 11, 12, 13, 14, 15, 16, 17, 18, 19, 20, 21, 22, 23, 24, 25], true, [], [], false⟩, ⟨[0, 1, 2, 3, 4, 5, 6, 7, 8, 9, 10, 11, 12, 13, 14, 15, 16, 17, 18, 19, 20, 21, 22, 23, 24, 25, 26], true, [], [], false⟩, ⟨[0, 1, 2, 3, 4, 5, 6, 7, 8, 9, 10, 11, 12, 13, 14, 15, 16, 17, 18, 19, 20, 21, 22, 23, 24, 25, 26, 27], false, [], [], false⟩, ⟨[0, 1, 2, 3, 4, 5, 6, 7, 8, 9, 10, 11, 12, 13, 14, 15, 16, 17, 18, 19, 20, 21, 22, 23, 24, 25, 26, 27, 28], false, [], [], false⟩, ⟨[0, 1, 2, 3, 4, 5, 6, 7, 8, 9, 10, 11, 12, 13, 14, 15, 16, 17, 18, 19, 20, 21, 22, 23, 24, 25, 26, 27, 28, 29], false, [], [], false⟩, ⟨[0, 1, 2, 3, 4, 5, 6, 7, 8, 9, 10, 11, 12, 13, 14, 15, 16, 17, 18, 19, 20, 21, 22, 23, 24, 25, 26, 27, 28, 29, 30], false, [50, 53, 54, 55, 56], [], false⟩, ⟨[0, 1, 2, 3, 4, 5, 6, 7, 8, 9, 10, 11, 12, 13, 14, 15, 16, 17, 18, 19, 20, 21, 22, 23, 24, 25, 26, 27, 28, 29, 30], false, [49, 53, 54, 55, 56], [31], false⟩, ⟨[0, 1, 2, 3, 4, 5, 6, 7, 8, 9, 10, 11, 12, 13, 14, 15, 16, 17, 18, 19, 20, 21, 22, 23, 24, 25, 26, 27, 28, 29, 30, 31, 32], false, [53, 54, 55, 56], [], false⟩, ⟨[0, 1, 2, 3, 4, 5, 6, 7, 8, 9, 10, 11, 12, 13, 14, 15, 16, 17, 18, 19, 20, 21, 22, 23, 24, 25, 26, 27, 28, 29, 30, 31, 32, 33], false, [53, 54, 55, 56], [], false⟩, ⟨[0, 1, 2, 3, 4, 5, 6, 7, 8, 9, 10, 11, 12, 13, 14, 15, 16, 17, 18, 19, 20, 21, 22, 23, 24, 25, 26, 27, 28, 29, 30], false, [49, 50, 51, 52, 54], [31, 32, 33, 34], false⟩, ⟨[0, 1, 2, 3, 4, 5, 6, 7, 8, 9, 10, 11, 12, 13, 14, 15, 16, 17, 18, 19, 20, 21, 22, 23, 24, 25, 26, 27, 28, 29, 30], false, [49, 50, 51, 52, 53], [31, 32, 33, 34, 35], false⟩, ⟨[0, 1, 2, 3, 4, 5, 6, 7, 8, 9, 10, 11, 12, 13, 14, 15, 16, 17, 18, 19, 20, 21, 22, 23, 24, 25, 26, 27, 28, 29, 30, 35, 36], false, [49, 50, 51, 52], [31, 32, 33, 34], false⟩, ⟨[0, 1, 2, 3, 4, 5, 6, 7, 8, 9, 10, 11, 12, 13, 14, 15, 16, 17, 18, 19, 20, 21, 22, 23, 24, 25, 26, 27, 28, 29, 30, 35, 36, 37], false, [49, 50, 51, 52], [31, 32, 33, 34], false⟩, ⟨[0, 1, 2, 3, 4, 5, 6, 7, 8, 9, 10, 11, 12, 13, 14, 15, 16, 17, 18, 19, 20, 21, 22, 23, 24, 25, 26, 27, 28, 29, 30, 31, 32, 33, 34, 35, 36, 37, 38], false, [], [], false⟩, ⟨[0, 1, 2, 3, 4, 5, 6, 7, 8, 9, 10, 11, 12, 13, 14, 15, 16, 17, 18, 19, 20, 21, 22, 23, 24, 25, 26, 27, 28, 29, 30, 31, 32, 33, 34, 35, 36, 37, 38, 39], false, [], [], false⟩, ⟨[0, 1, 2, 3, 4, 5, 6, 7, 8, 9, 10, 11, 12, 13, 14, 15, 16, 17, 18, 19, 20, 21, 22, 23, 24, 25, 26, 27, 28, 29, 30, 31, 32, 33, 34, 35, 36, 37, 38, 39, 40], true, [], [], false⟩] (by decide) ?_
          simp (maxSteps := 2000000) -implicitDefEqProofs only [zz, zE, evop, ev, ofVal, tget, tput, ok, V.isUndef, intBin, guardOf, initT, Ch.on, calleeOf, withArgs, told, xport, xports, tids, tidss, hget, hput, Blk.ice, freeze, V.cells, D.cells, V.isAgg, V.one, V.clo, clos, V.toD, loadD, structAt, eqCells, D.scalarEq, sliceOf, partsD, partsV, bound, isPtr, Blk.width, elems, lenOf, splice, D.over, resOf, resV, resVs, ↓reduceIte, reduceCtorEq, ↓reduceDIte, Nat.reduceLT, Nat.reduceEqDiff, Nat.reduceAdd, Nat.reduceSub, Nat.reduceMul, Nat.reduceLeDiff, Nat.reduceBEq, Nat.reduceBNe, Int.reduceNeg, Int.reduceAdd, Int.reduceSub, Int.reduceToNat, nilTest, shiftH, Blk.ren, V.ren, renL, initV, frameH, putL, frρ, dI, zeroD, okEl, hx, hxb, htb, List.getElem?_map, Option.map_some, Int.natCast_nonneg, hw, f1, c2, c3, c4, f2, c5]
          rw [e]
          exact ⟨by omega, Weak.trims 2 rfl (by simp [tget, V.lower]) (by simp [Blk.lower])⟩
        · have e : bst now ts (L.take k) (i + 1) = b := by
            simp only [bst]; rw [b1, Int.toNat_natCast, if_neg]
            rintro ⟨_, h | h⟩
            · omega
            · rw [htd, htdb] at h; exact c5 h
          refine wdraw_plan [⟨[], false, [19], [], false⟩, ⟨[], false, [18], [0], false⟩, ⟨[0, 1], true, [], [], false⟩, ⟨[0, 1, 2], true, [], [], false⟩, ⟨[0, 1, 2, 3], true, [], [], false⟩, ⟨[0, 1, 2, 3, 4], true, [], [], false⟩, ⟨[0, 1, 2, 3, 4, 5], false, [25], [], false⟩, ⟨[0, 1, 2, 3, 4, 5], false, [24], [6], false⟩, ⟨[0, 1, 2, 3, 4, 5, 6, 7], false, [], [], false⟩, ⟨[0, 1, 2, 3, 4, 5, 6, 7, 8], false, [], [], false⟩, ⟨[0, 1, 2, 3, 4, 5, 6, 7, 8, 9], false, [], [], false⟩, ⟨[0, 1, 2, 3, 4, 5, 6, 7, 8, 9, 10], true, [], [], false⟩, ⟨[0, 1, 2, 3, 4, 5, 6, 7, 8, 9, 10, 11], true, [], [], false⟩, ⟨[0, 1, 2, 3, 4, 5, 6, 7, 8, 9, 10, 11, 12], false, [32], [], false⟩, ⟨[0, 1, 2, 3, 4, 5, 6, 7, 8, 9, 10, 11, 12], false, [31], [13], false⟩, ⟨[0, 1, 2, 3, 4, 5, 6, 7, 8, 9, 10, 11, 12, 13, 14], false, [], [], false⟩, ⟨[0, 1, 2, 3, 4, 5, 6, 7, 8, 9, 10, 11, 12, 13, 14, 15], false, [], [], false⟩, ⟨[0, 1, 2, 3, 4, 5, 6, 7, 8, 9, 10, 11, 12, 13, 14, 15, 16], false, [], [], false⟩, ⟨[0, 1, 2, 3, 4, 5, 6, 7, 8, 9, 10, 11, 12, 13, 14, 15, 16, 17], true, [], [], false⟩, ⟨[0, 1, 2, 3, 4, 5, 6, 7, 8, 9, 10, 11, 12, 13, 14, 15, 16, 17, 18], true, [], [], false⟩, ⟨[0, 1, 2, 3, 4, 5, 6, 7, 8, 9, 10, 11, 12, 13, 14, 15, 16, 17, 18, 19], false, [39, 42], [], false⟩, ⟨[0, 1, 2, 3, 4, 5, 6, 7, 8, 9, 10, 11, 12, 13, 14, 15, 16, 17, 18, 19], false, [38, 42], [20], false⟩, ⟨[0, 1, 2, 3, 4, 5, 6, 7, 8, 9, 10, 11, 12, 13, 14, 15, 16, 17, 18, 19, 20, 21], false, [42], [], false⟩, ⟨[0, 1, 2, 3, 4, 5, 6, 7, 8, 9, 10, 11, 12, 13, 14, 15, 16, 17, 18, 19, 20, 21, 22], false, [42], [], false⟩, ⟨[0, 1, 2, 3, 4, 5, 6, 7, 8, 9, 10, 11, 12, 13, 14, 15, 16, 17, 18, 19], false, [38, 39, 40, 41], [20, 21, 22, 23], false⟩, ⟨[0, 1, 2, 3, 4, 5, 6, 7, 8, 9, 10, 11, 12, 13, 14, 15, 16, 17, 18, 19, 20, 21, 22, 23, 24], false, [], [], false⟩, ⟨[0, 1, 2, 3, 4, 5, 6, 7, 8, 9, 10, 11, 12, 13, 14, 15, 16, 17, 18, 19, 20, 21, 22, 23, 24, 25], true, [], [], false⟩, ⟨[0, 1, 2, 3, 4, 5, 6, 7, 8, 9, 10, 11, 12, 13, 14, 15, 16, 17, 18, 19, 20, 21, 22, 23, 24, 25, 26], true, [], [], false⟩, ⟨[0, 1, 2, 3, 4, 5, 6, 7, 8, 9, 10, 11, 12, 13, 14, 15, 16, 17, 18, 19, 20, 21, 22, 23, 24, 25, 26, 27], false, [], [], false⟩, ⟨[0, 1, 2, 3, 4, 5, 6, 7, 8, 9, 10, 11, 12, 13, 14, 15, 16, 17, 18, 19, 20, 21, 22, 23, 24, 25, 26, 27, 28], false, [], [], false⟩, ⟨[0, 1, 2, 3, 4, 5, 6, 7, 8, 9, 10, 11, 12, 13, 14, 15, 16, 17, 18, 19, 20, 21, 22, 23, 24, 25, 26, 27, 28, 29], false, [], [], false⟩, ⟨[0, 1, 2, 3, 4, 5, 6, 7, 8, 9, 10, 11, 12, 13, 14, 15, 16, 17, 18, 19, 20, 21, 22, 23, 24, 25, 26, 27, 28, 29, 30], false, [50, 53, 54, 55, 56], [], false⟩, ⟨[0, 1, 2, 3, 4, 5, 6, 7, 8, 9, 10, 11, 12, 13, 14, 15, 16, 17, 18, 19, 20, 21, 22, 23, 24, 25, 26, 27, 28, 29, 30], false, [49, 53, 54, 55, 56], [31], false⟩, ⟨[0, 1, 2, 3, 4, 5, 6, 7, 8, 9, 10, 11, 12, 13, 14, 15, 16, 17, 18, 19, 20, 21, 22, 23, 24, 25, 26, 27, 28, 29, 30, 31, 32], false, [53, 54, 55, 56], [], false⟩, ⟨[0, 1, 2, 3, 4, 5, 6, 7, 8, 9, 10, 11, 12, 13, 14, 15, 16, 17, 18, 19, 20, 21, 22, 23, 24, 25, 26, 27, 28, 29, 30, 31, 32, 33], false, [53, 54, 55, 56], [], false⟩, ⟨[0, 1, 2, 3, 4, 5, 6, 7, 8, 9, 10, 11, 12, 13, 14, 15, 16, 17, 18, 19, 20, 21, 22, 23, 24, 25, 26, 27, 28, 29, 30], false, [49, 50, 51, 52, 54], [31, 32, 33, 34], false⟩, ⟨[0, 1, 2, 3, 4, 5, 6, 7, 8, 9, 10, 11, 12, 13, 14, 15, 16, 17, 18, 19, 20, 21, 22, 23, 24, 25, 26, 27, 28, 29, 30], false, [49, 50, 51, 52, 53], [31, 32, 33, 34, 35], false⟩, ⟨[0, 1, 2, 3, 4, 5, 6, 7, 8, 9, 10, 11, 12, 13, 14, 15, 16, 17, 18, 19, 20, 21, 22, 23, 24, 25, 26, 27, 28, 29, 30, 35, 36], false, [49, 50, 51, 52], [31, 32, 33, 34], false⟩, ⟨[0, 1, 2, 3, 4, 5, 6, 7, 8, 9, 10, 11, 12, 13, 14, 15, 16, 17, 18, 19, 20, 21, 22, 23, 24, 25, 26, 27, 28, 29, 30, 35, 36, 37], false, [49, 50, 51, 52], [31, 32, 33, 34], false⟩, ⟨[0, 1, 2, 3, 4, 5, 6, 7, 8, 9, 10, 11, 12, 13, 14, 15, 16, 17, 18, 19, 20, 21, 22, 23, 24, 25, 26, 27, 28, 29, 30, 31, 32, 33, 34, 35, 36, 37, 38], false, [], [], false⟩, ⟨[0, 1, 2, 3, 4, 5, 6, 7, 8, 9, 10, 11, 12, 13, 14, 15, 16, 17, 18, 19, 20, 21, 22, 23, 24, 25, 26, 27, 28, 29, 30, 31, 32, 33, 34, 35, 36, 37, 38, 39], false, [], [], false⟩, ⟨[0, 1, 2, 3, 4, 5, 6, 7, 8, 9, 10, 11, 12, 13, 14, 15, 16, 17, 18, 19, 20, 21, 22, 23, 24, 25, 26, 27, 28, 29, 30, 31, 32, 33, 34, 35, 36, 37, 38, 39, 40], true, [], [], false⟩] (by decide) ?_
          simp (maxSteps := 2000000) -implicitDefEqProofs only [zz, zE, evop, ev, ofVal, tget, tput, ok, V.isUndef, intBin, guardOf, initT, Ch.on, calleeOf, withArgs, told, xport, xports, tids, tidss, hget, hput, Blk.ice, freeze, V.cells, D.cells, V.isAgg, V.one, V.clo, clos, V.toD, loadD, structAt, eqCells, D.scalarEq, sliceOf, partsD, partsV, bound, isPtr, Blk.width, elems, lenOf, splice, D.over, resOf, resV, resVs, ↓reduceIte, reduceCtorEq, ↓reduceDIte, Nat.reduceLT, Nat.reduceEqDiff, Nat.reduceAdd, Nat.reduceSub, Nat.reduceMul, Nat.reduceLeDiff, Nat.reduceBEq, Nat.reduceBNe, Int.reduceNeg, Int.reduceAdd, Int.reduceSub, Int.reduceToNat, nilTest, shiftH, Blk.ren, V.ren, renL, initV, frameH, putL, frρ, dI, zeroD, okEl, hx, hxb, htb, List.getElem?_map, Option.map_some, Int.natCast_nonneg, hw, f1, c2, c3, c4, f2, c5]
          rw [e]
          exact ⟨by omega, Weak.trims 2 rfl (by simp [tget, V.lower]) (by simp [Blk.lower])⟩
    · have hn : ¬ ((ts.length : Int) < (ts.length : Int)) := by omega
      rw [hbest k]
      cases hk2 : L[k]? with
      | none =>
        have hkL : k = L.length := by have := List.getElem?_eq_none_iff.1 hk2; omega
        have f2 : ((-1 : Int) < 0) := by decide
        simp only [Option.getD_none]
        simp (maxSteps := 2000000) -implicitDefEqProofs only [zz, zE, evop, ev, ofVal, tget, tput, ok, V.isUndef, intBin, guardOf, initT, Ch.on, calleeOf, withArgs, told, xport, xports, tids, tidss, hget, hput, Blk.ice, freeze, V.cells, D.cells, V.isAgg, V.one, V.clo, clos, V.toD, loadD, structAt, eqCells, D.scalarEq, sliceOf, partsD, partsV, bound, isPtr, Blk.width, elems, lenOf, splice, D.over, resOf, resV, resVs, ↓reduceIte, reduceCtorEq, ↓reduceDIte, Nat.reduceLT, Nat.reduceEqDiff, Nat.reduceAdd, Nat.reduceSub, Nat.reduceMul, Nat.reduceLeDiff, Nat.reduceBEq, Nat.reduceBNe, Int.reduceNeg, Int.reduceAdd, Int.reduceSub, Int.reduceToNat, nilTest, shiftH, Blk.ren, V.ren, renL, initV, frameH, putL, frρ, dI, zeroD, okEl, hn, f2]
        subst hkL
        simp
        exact List.take_of_length_le (by simp)
      | some x =>
        obtain ⟨b, rfl, hb⟩ := hLm x (List.mem_of_getElem? hk2)
        have f2 : ¬ ((b : Int) < 0) := by omega
        have htb := tb_get (n := ts.length) (T := L.take k) hb
        have hkL : k < L.length := (List.getElem?_eq_some_iff.1 hk2).1
        have hT : L.take (k + 1) = L.take k ++ [(b : Int)] := by rw [List.take_add_one, hk2]; rfl
        have hlk : (L.take k).length = k := by simp; omega
        simp only [Option.getD_some]
        simp (maxSteps := 2000000) -implicitDefEqProofs only [zz, zE, evop, ev, ofVal, tget, tput, ok, V.isUndef, intBin, guardOf, initT, Ch.on, calleeOf, withArgs, told, xport, xports, tids, tidss, hget, hput, Blk.ice, freeze, V.cells, D.cells, V.isAgg, V.one, V.clo, clos, V.toD, loadD, structAt, eqCells, D.scalarEq, sliceOf, partsD, partsV, bound, isPtr, Blk.width, elems, lenOf, splice, D.over, resOf, resV, resVs, ↓reduceIte, reduceCtorEq, ↓reduceDIte, Nat.reduceLT, Nat.reduceEqDiff, Nat.reduceAdd, Nat.reduceSub, Nat.reduceMul, Nat.reduceLeDiff, Nat.reduceBEq, Nat.reduceBNe, Int.reduceNeg, Int.reduceAdd, Int.reduceSub, Int.reduceToNat, nilTest, shiftH, Blk.ren, V.ren, renL, initV, frameH, putL, frρ, dI, zeroD, okEl, hn, f2, htb, Int.natCast_nonneg]
        refine ⟨by omega, ⟨by omega, fun e he => by obtain rfl : e = .int .i64 b := by simpa using he
                                                    rfl⟩, k + 1, by omega, by omega, ?_⟩
        have e1 : List.take k (List.map dI (List.take k L)) ++ [D.int IntKind.i64 (b : Int)] = (L.take (k + 1)).map dI := by rw [List.take_of_length_le (by simp; omega), hT]; simp [dI]
        rw [e1, tb_set, ← hT]
        refine Weak.pick [0, 3] (by simp) (by simp) rfl (fun q hq => ?_) (fun i hi => ?_)
        · simp only [List.mem_cons, List.not_mem_nil, or_false] at hq
          rcases hq with rfl | rfl | rfl | rfl <;> exact .same _
        · obtain rfl | rfl : i = 0 ∨ i = 1 := by simp at hi; omega
          · exact .dat false 1 _ rfl rfl
          · exact .dat false 1 _ rfl rfl
end Go.Proofs.Ythpapgbpmkgfeaa.AM

/- The fixed answer of layer 4. -/
set_option linter.all false
set_option maxRecDepth 100000
set_option maxHeartbeats 4000000
namespace Go.Proofs.Ythpapgbpmkgfeaa.AM
open Go Go.RowKit

theorem aw_1 : CSpec Try.prog 35 [.int .i64 5] (.tuple [.int .i64 6, .int .i64 0]) := c_tick_Next 5
theorem aw_2 : CSpec Try.prog 35 [.int .i64 2147483647] (.tuple [.int .i64 0, .int .i64 6]) := c_tick_Next 2147483647
theorem aw_3 : CSpec Try.prog 37 [.int .i64 5, .int .i64 3] (.tuple [.int .i64 8, .int .i64 0]) := c_tick_After 5 3
theorem aw_4 : CSpec Try.prog 37 [.int .i64 5, .int .i64 0] (.tuple [.int .i64 0, .int .i64 1]) := c_tick_After 5 0
theorem aw_5 : CSpec Try.prog 40 [.int .i64 0] (.bool true) := c_tick_Right 0
theorem aw_6 : CSpec Try.prog 43 [.int .i64 5, .vec [dI 7, dI 5, dI 3]] (.vec [dI 2, dI 1]) := by
  have h := c_Due 5 [7, 5, 3] (by decide) (by decide)
  exact h
theorem aw_7 : CSpec Try.prog 42 [.vec [dI 2, dI 1], .vec [dI 2, dI 1]] (.bool true) := c_Numbers [2, 1] [2, 1] (by decide) (by decide)
theorem aw_8 : CSpec Try.prog 44 [.vec []] (.int .i64 (-1)) := c_First [] (by decide) (by decide)
theorem aw_9 : CSpec Try.prog 44 [.vec [dI 4, dI 2]] (.int .i64 1) := c_First [4, 2] (by decide) (by decide)

theorem c_awake04 : CSpec Try.prog 34 [] (.bool true) := by
  refine CSpec.of_awp envOf_ok hmix Try.func34 rfl (fun args w => Try.call34 args w) (by simp [Try.f34]) ?_
  simp only [Try.f34]
  simp (maxSteps := 2000000) -implicitDefEqProofs only [zz, zE, evop, ev, ofVal, tget, tput, ok, V.isUndef, intBin, guardOf, initT, Ch.on, calleeOf, withArgs, told, xport, xports, tids, tidss, hget, hput, Blk.ice, freeze, V.cells, D.cells, V.isAgg, V.one, V.clo, clos, V.toD, loadD, structAt, eqCells, D.scalarEq, sliceOf, partsD, partsV, bound, isPtr, Blk.width, elems, lenOf, splice, D.over, resOf, resV, resVs, ↓reduceIte, reduceCtorEq, ↓reduceDIte, Nat.reduceLT, Nat.reduceEqDiff, Nat.reduceAdd, Nat.reduceSub, Nat.reduceMul, Nat.reduceLeDiff, Nat.reduceBEq, Nat.reduceBNe, Int.reduceNeg, Int.reduceAdd, Int.reduceSub, Int.reduceToNat, nilTest, shiftH, Blk.ren, V.ren, renL, initV, frameH, putL, frρ, dI, dW]
  refine acall_flat (by first | rfl | (simp only [xports, xport, hget]; rfl)) (aw_1) rfl ?_
  try simp (maxSteps := 2000000) -implicitDefEqProofs only [zz, zE, evop, ev, ofVal, tget, tput, ok, V.isUndef, intBin, guardOf, initT, Ch.on, calleeOf, withArgs, told, xport, xports, tids, tidss, hget, hput, Blk.ice, freeze, V.cells, D.cells, V.isAgg, V.one, V.clo, clos, V.toD, loadD, structAt, eqCells, D.scalarEq, sliceOf, partsD, partsV, bound, isPtr, Blk.width, elems, lenOf, splice, D.over, resOf, resV, resVs, ↓reduceIte, reduceCtorEq, ↓reduceDIte, Nat.reduceLT, Nat.reduceEqDiff, Nat.reduceAdd, Nat.reduceSub, Nat.reduceMul, Nat.reduceLeDiff, Nat.reduceBEq, Nat.reduceBNe, Int.reduceNeg, Int.reduceAdd, Int.reduceSub, Int.reduceToNat, nilTest, shiftH, Blk.ren, V.ren, renL, initV, frameH, putL, frρ, dI, dW]
  refine acall_flat (by first | rfl | (simp only [xports, xport, hget]; rfl)) (aw_2) rfl ?_
  try simp (maxSteps := 2000000) -implicitDefEqProofs only [zz, zE, evop, ev, ofVal, tget, tput, ok, V.isUndef, intBin, guardOf, initT, Ch.on, calleeOf, withArgs, told, xport, xports, tids, tidss, hget, hput, Blk.ice, freeze, V.cells, D.cells, V.isAgg, V.one, V.clo, clos, V.toD, loadD, structAt, eqCells, D.scalarEq, sliceOf, partsD, partsV, bound, isPtr, Blk.width, elems, lenOf, splice, D.over, resOf, resV, resVs, ↓reduceIte, reduceCtorEq, ↓reduceDIte, Nat.reduceLT, Nat.reduceEqDiff, Nat.reduceAdd, Nat.reduceSub, Nat.reduceMul, Nat.reduceLeDiff, Nat.reduceBEq, Nat.reduceBNe, Int.reduceNeg, Int.reduceAdd, Int.reduceSub, Int.reduceToNat, nilTest, shiftH, Blk.ren, V.ren, renL, initV, frameH, putL, frρ, dI, dW]
  refine acall_flat (by first | rfl | (simp only [xports, xport, hget]; rfl)) (aw_3) rfl ?_
  try simp (maxSteps := 2000000) -implicitDefEqProofs only [zz, zE, evop, ev, ofVal, tget, tput, ok, V.isUndef, intBin, guardOf, initT, Ch.on, calleeOf, withArgs, told, xport, xports, tids, tidss, hget, hput, Blk.ice, freeze, V.cells, D.cells, V.isAgg, V.one, V.clo, clos, V.toD, loadD, structAt, eqCells, D.scalarEq, sliceOf, partsD, partsV, bound, isPtr, Blk.width, elems, lenOf, splice, D.over, resOf, resV, resVs, ↓reduceIte, reduceCtorEq, ↓reduceDIte, Nat.reduceLT, Nat.reduceEqDiff, Nat.reduceAdd, Nat.reduceSub, Nat.reduceMul, Nat.reduceLeDiff, Nat.reduceBEq, Nat.reduceBNe, Int.reduceNeg, Int.reduceAdd, Int.reduceSub, Int.reduceToNat, nilTest, shiftH, Blk.ren, V.ren, renL, initV, frameH, putL, frρ, dI, dW]
  refine acall_flat (by first | rfl | (simp only [xports, xport, hget]; rfl)) (aw_4) rfl ?_
  try simp (maxSteps := 2000000) -implicitDefEqProofs only [zz, zE, evop, ev, ofVal, tget, tput, ok, V.isUndef, intBin, guardOf, initT, Ch.on, calleeOf, withArgs, told, xport, xports, tids, tidss, hget, hput, Blk.ice, freeze, V.cells, D.cells, V.isAgg, V.one, V.clo, clos, V.toD, loadD, structAt, eqCells, D.scalarEq, sliceOf, partsD, partsV, bound, isPtr, Blk.width, elems, lenOf, splice, D.over, resOf, resV, resVs, ↓reduceIte, reduceCtorEq, ↓reduceDIte, Nat.reduceLT, Nat.reduceEqDiff, Nat.reduceAdd, Nat.reduceSub, Nat.reduceMul, Nat.reduceLeDiff, Nat.reduceBEq, Nat.reduceBNe, Int.reduceNeg, Int.reduceAdd, Int.reduceSub, Int.reduceToNat, nilTest, shiftH, Blk.ren, V.ren, renL, initV, frameH, putL, frρ, dI, dW]
  refine acall_ice (by first | rfl | (simp only [xports, xport, hget]; rfl)) (aw_6) ?_
  try simp (maxSteps := 2000000) -implicitDefEqProofs only [zz, zE, evop, ev, ofVal, tget, tput, ok, V.isUndef, intBin, guardOf, initT, Ch.on, calleeOf, withArgs, told, xport, xports, tids, tidss, hget, hput, Blk.ice, freeze, V.cells, D.cells, V.isAgg, V.one, V.clo, clos, V.toD, loadD, structAt, eqCells, D.scalarEq, sliceOf, partsD, partsV, bound, isPtr, Blk.width, elems, lenOf, splice, D.over, resOf, resV, resVs, ↓reduceIte, reduceCtorEq, ↓reduceDIte, Nat.reduceLT, Nat.reduceEqDiff, Nat.reduceAdd, Nat.reduceSub, Nat.reduceMul, Nat.reduceLeDiff, Nat.reduceBEq, Nat.reduceBNe, Int.reduceNeg, Int.reduceAdd, Int.reduceSub, Int.reduceToNat, nilTest, shiftH, Blk.ren, V.ren, renL, initV, frameH, putL, frρ, dI, dW]
  refine acall_flat (by first | rfl | (simp only [xports, xport, hget]; rfl)) (aw_7) rfl ?_
  try simp (maxSteps := 2000000) -implicitDefEqProofs only [zz, zE, evop, ev, ofVal, tget, tput, ok, V.isUndef, intBin, guardOf, initT, Ch.on, calleeOf, withArgs, told, xport, xports, tids, tidss, hget, hput, Blk.ice, freeze, V.cells, D.cells, V.isAgg, V.one, V.clo, clos, V.toD, loadD, structAt, eqCells, D.scalarEq, sliceOf, partsD, partsV, bound, isPtr, Blk.width, elems, lenOf, splice, D.over, resOf, resV, resVs, ↓reduceIte, reduceCtorEq, ↓reduceDIte, Nat.reduceLT, Nat.reduceEqDiff, Nat.reduceAdd, Nat.reduceSub, Nat.reduceMul, Nat.reduceLeDiff, Nat.reduceBEq, Nat.reduceBNe, Int.reduceNeg, Int.reduceAdd, Int.reduceSub, Int.reduceToNat, nilTest, shiftH, Blk.ren, V.ren, renL, initV, frameH, putL, frρ, dI, dW]
  refine acall_flat (by first | rfl | (simp only [xports, xport, hget]; rfl)) (aw_8) rfl ?_
  try simp (maxSteps := 2000000) -implicitDefEqProofs only [zz, zE, evop, ev, ofVal, tget, tput, ok, V.isUndef, intBin, guardOf, initT, Ch.on, calleeOf, withArgs, told, xport, xports, tids, tidss, hget, hput, Blk.ice, freeze, V.cells, D.cells, V.isAgg, V.one, V.clo, clos, V.toD, loadD, structAt, eqCells, D.scalarEq, sliceOf, partsD, partsV, bound, isPtr, Blk.width, elems, lenOf, splice, D.over, resOf, resV, resVs, ↓reduceIte, reduceCtorEq, ↓reduceDIte, Nat.reduceLT, Nat.reduceEqDiff, Nat.reduceAdd, Nat.reduceSub, Nat.reduceMul, Nat.reduceLeDiff, Nat.reduceBEq, Nat.reduceBNe, Int.reduceNeg, Int.reduceAdd, Int.reduceSub, Int.reduceToNat, nilTest, shiftH, Blk.ren, V.ren, renL, initV, frameH, putL, frρ, dI, dW]
  refine acall_flat (by first | rfl | (simp only [xports, xport, hget]; rfl)) (aw_9) rfl ?_
  try simp (maxSteps := 2000000) -implicitDefEqProofs only [zz, zE, evop, ev, ofVal, tget, tput, ok, V.isUndef, intBin, guardOf, initT, Ch.on, calleeOf, withArgs, told, xport, xports, tids, tidss, hget, hput, Blk.ice, freeze, V.cells, D.cells, V.isAgg, V.one, V.clo, clos, V.toD, loadD, structAt, eqCells, D.scalarEq, sliceOf, partsD, partsV, bound, isPtr, Blk.width, elems, lenOf, splice, D.over, resOf, resV, resVs, ↓reduceIte, reduceCtorEq, ↓reduceDIte, Nat.reduceLT, Nat.reduceEqDiff, Nat.reduceAdd, Nat.reduceSub, Nat.reduceMul, Nat.reduceLeDiff, Nat.reduceBEq, Nat.reduceBNe, Int.reduceNeg, Int.reduceAdd, Int.reduceSub, Int.reduceToNat, nilTest, shiftH, Blk.ren, V.ren, renL, initV, frameH, putL, frρ, dI, dW]
  refine acall_flat (by first | rfl | (simp only [xports, xport, hget]; rfl)) (aw_5) rfl ?_
  try simp (maxSteps := 2000000) -implicitDefEqProofs only [zz, zE, evop, ev, ofVal, tget, tput, ok, V.isUndef, intBin, guardOf, initT, Ch.on, calleeOf, withArgs, told, xport, xports, tids, tidss, hget, hput, Blk.ice, freeze, V.cells, D.cells, V.isAgg, V.one, V.clo, clos, V.toD, loadD, structAt, eqCells, D.scalarEq, sliceOf, partsD, partsV, bound, isPtr, Blk.width, elems, lenOf, splice, D.over, resOf, resV, resVs, ↓reduceIte, reduceCtorEq, ↓reduceDIte, Nat.reduceLT, Nat.reduceEqDiff, Nat.reduceAdd, Nat.reduceSub, Nat.reduceMul, Nat.reduceLeDiff, Nat.reduceBEq, Nat.reduceBNe, Int.reduceNeg, Int.reduceAdd, Int.reduceSub, Int.reduceToNat, nilTest, shiftH, Blk.ren, V.ren, renL, initV, frameH, putL, frρ, dI, dW]

end Go.Proofs.Ythpapgbpmkgfeaa.AM

/- TickTells: the law. -/
set_option linter.all false
set_option maxRecDepth 100000
set_option maxHeartbeats 4000000
namespace Go.Proofs.Ythpapgbpmkgfeaa.AM
open Go Go.RowKit

theorem c_TickTells (n k : Int) (ts : List Int) : CSpec Try.prog 9 [.int .i64 n, .int .i64 k, .vec (ts.map dI)] (.bool true) := by
  refine CSpec.of_awp envOf_ok hmix Try.func9 rfl (fun args w => Try.call9 args w) (by simp [Try.f9]) ?_
  simp only [Try.f9]
  simp (maxSteps := 2000000) -implicitDefEqProofs only [zz, zE, evop, ev, ofVal, tget, tput, ok, V.isUndef, intBin, guardOf, initT, Ch.on, calleeOf, withArgs, told, xport, xports, tids, tidss, hget, hput, Blk.ice, freeze, V.cells, D.cells, V.isAgg, V.one, V.clo, clos, V.toD, loadD, structAt, eqCells, D.scalarEq, sliceOf, partsD, partsV, bound, isPtr, Blk.width, elems, lenOf, splice, D.over, resOf, resV, resVs, ↓reduceIte, reduceCtorEq, ↓reduceDIte, Nat.reduceLT, Nat.reduceEqDiff, Nat.reduceAdd, Nat.reduceSub, Nat.reduceMul, Nat.reduceLeDiff, Nat.reduceBEq, Nat.reduceBNe, Int.reduceNeg, Int.reduceAdd, Int.reduceSub, Int.reduceToNat, nilTest, shiftH, Blk.ren, V.ren, renL, initV, frameH, putL, frρ, dI]
  by_cases h60 : (ts.length : Int) > 60
  · simp (maxSteps := 2000000) -implicitDefEqProofs only [zz, zE, evop, ev, ofVal, tget, tput, ok, V.isUndef, intBin, guardOf, initT, Ch.on, calleeOf, withArgs, told, xport, xports, tids, tidss, hget, hput, Blk.ice, freeze, V.cells, D.cells, V.isAgg, V.one, V.clo, clos, V.toD, loadD, structAt, eqCells, D.scalarEq, sliceOf, partsD, partsV, bound, isPtr, Blk.width, elems, lenOf, splice, D.over, resOf, resV, resVs, ↓reduceIte, reduceCtorEq, ↓reduceDIte, Nat.reduceLT, Nat.reduceEqDiff, Nat.reduceAdd, Nat.reduceSub, Nat.reduceMul, Nat.reduceLeDiff, Nat.reduceBEq, Nat.reduceBNe, Int.reduceNeg, Int.reduceAdd, Int.reduceSub, Int.reduceToNat, nilTest, shiftH, Blk.ren, V.ren, renL, initV, frameH, putL, frρ, dI, h60]
    refine acall_flat (by first | rfl | (simp only [xports, xport, hget]; rfl)) (c_awake04) rfl ?_
    try simp (maxSteps := 2000000) -implicitDefEqProofs only [zz, zE, evop, ev, ofVal, tget, tput, ok, V.isUndef, intBin, guardOf, initT, Ch.on, calleeOf, withArgs, told, xport, xports, tids, tidss, hget, hput, Blk.ice, freeze, V.cells, D.cells, V.isAgg, V.one, V.clo, clos, V.toD, loadD, structAt, eqCells, D.scalarEq, sliceOf, partsD, partsV, bound, isPtr, Blk.width, elems, lenOf, splice, D.over, resOf, resV, resVs, ↓reduceIte, reduceCtorEq, ↓reduceDIte, Nat.reduceLT, Nat.reduceEqDiff, Nat.reduceAdd, Nat.reduceSub, Nat.reduceMul, Nat.reduceLeDiff, Nat.reduceBEq, Nat.reduceBNe, Int.reduceNeg, Int.reduceAdd, Int.reduceSub, Int.reduceToNat, nilTest, shiftH, Blk.ren, V.ren, renL, initV, frameH, putL, frρ, dI]
  · simp (maxSteps := 2000000) -implicitDefEqProofs only [zz, zE, evop, ev, ofVal, tget, tput, ok, V.isUndef, intBin, guardOf, initT, Ch.on, calleeOf, withArgs, told, xport, xports, tids, tidss, hget, hput, Blk.ice, freeze, V.cells, D.cells, V.isAgg, V.one, V.clo, clos, V.toD, loadD, structAt, eqCells, D.scalarEq, sliceOf, partsD, partsV, bound, isPtr, Blk.width, elems, lenOf, splice, D.over, resOf, resV, resVs, ↓reduceIte, reduceCtorEq, ↓reduceDIte, Nat.reduceLT, Nat.reduceEqDiff, Nat.reduceAdd, Nat.reduceSub, Nat.reduceMul, Nat.reduceLeDiff, Nat.reduceBEq, Nat.reduceBNe, Int.reduceNeg, Int.reduceAdd, Int.reduceSub, Int.reduceToNat, nilTest, shiftH, Blk.ren, V.ren, renL, initV, frameH, putL, frρ, dI, h60]
    have hl : ts.length ≤ 1000000 := by omega
    refine acall_flat (by first | rfl | (simp only [xports, xport, hget]; rfl)) (c_tick_Next n) rfl ?_
    try simp (maxSteps := 2000000) -implicitDefEqProofs only [zz, zE, evop, ev, ofVal, tget, tput, ok, V.isUndef, intBin, guardOf, initT, Ch.on, calleeOf, withArgs, told, xport, xports, tids, tidss, hget, hput, Blk.ice, freeze, V.cells, D.cells, V.isAgg, V.one, V.clo, clos, V.toD, loadD, structAt, eqCells, D.scalarEq, sliceOf, partsD, partsV, bound, isPtr, Blk.width, elems, lenOf, splice, D.over, resOf, resV, resVs, ↓reduceIte, reduceCtorEq, ↓reduceDIte, Nat.reduceLT, Nat.reduceEqDiff, Nat.reduceAdd, Nat.reduceSub, Nat.reduceMul, Nat.reduceLeDiff, Nat.reduceBEq, Nat.reduceBNe, Int.reduceNeg, Int.reduceAdd, Int.reduceSub, Int.reduceToNat, nilTest, shiftH, Blk.ren, V.ren, renL, initV, frameH, putL, frρ, dI]
    refine acall_flat (by first | rfl | (simp only [xports, xport, hget]; rfl)) (c_r04_Next n) rfl ?_
    try simp (maxSteps := 2000000) -implicitDefEqProofs only [zz, zE, evop, ev, ofVal, tget, tput, ok, V.isUndef, intBin, guardOf, initT, Ch.on, calleeOf, withArgs, told, xport, xports, tids, tidss, hget, hput, Blk.ice, freeze, V.cells, D.cells, V.isAgg, V.one, V.clo, clos, V.toD, loadD, structAt, eqCells, D.scalarEq, sliceOf, partsD, partsV, bound, isPtr, Blk.width, elems, lenOf, splice, D.over, resOf, resV, resVs, ↓reduceIte, reduceCtorEq, ↓reduceDIte, Nat.reduceLT, Nat.reduceEqDiff, Nat.reduceAdd, Nat.reduceSub, Nat.reduceMul, Nat.reduceLeDiff, Nat.reduceBEq, Nat.reduceBNe, Int.reduceNeg, Int.reduceAdd, Int.reduceSub, Int.reduceToNat, nilTest, shiftH, Blk.ren, V.ren, renL, initV, frameH, putL, frρ, dI]
    refine acall_flat (by first | rfl | (simp only [xports, xport, hget]; rfl)) (c_tick_After n k) rfl ?_
    try simp (maxSteps := 2000000) -implicitDefEqProofs only [zz, zE, evop, ev, ofVal, tget, tput, ok, V.isUndef, intBin, guardOf, initT, Ch.on, calleeOf, withArgs, told, xport, xports, tids, tidss, hget, hput, Blk.ice, freeze, V.cells, D.cells, V.isAgg, V.one, V.clo, clos, V.toD, loadD, structAt, eqCells, D.scalarEq, sliceOf, partsD, partsV, bound, isPtr, Blk.width, elems, lenOf, splice, D.over, resOf, resV, resVs, ↓reduceIte, reduceCtorEq, ↓reduceDIte, Nat.reduceLT, Nat.reduceEqDiff, Nat.reduceAdd, Nat.reduceSub, Nat.reduceMul, Nat.reduceLeDiff, Nat.reduceBEq, Nat.reduceBNe, Int.reduceNeg, Int.reduceAdd, Int.reduceSub, Int.reduceToNat, nilTest, shiftH, Blk.ren, V.ren, renL, initV, frameH, putL, frρ, dI]
    refine acall_flat (by first | rfl | (simp only [xports, xport, hget]; rfl)) (c_r04_After n k) rfl ?_
    try simp (maxSteps := 2000000) -implicitDefEqProofs only [zz, zE, evop, ev, ofVal, tget, tput, ok, V.isUndef, intBin, guardOf, initT, Ch.on, calleeOf, withArgs, told, xport, xports, tids, tidss, hget, hput, Blk.ice, freeze, V.cells, D.cells, V.isAgg, V.one, V.clo, clos, V.toD, loadD, structAt, eqCells, D.scalarEq, sliceOf, partsD, partsV, bound, isPtr, Blk.width, elems, lenOf, splice, D.over, resOf, resV, resVs, ↓reduceIte, reduceCtorEq, ↓reduceDIte, Nat.reduceLT, Nat.reduceEqDiff, Nat.reduceAdd, Nat.reduceSub, Nat.reduceMul, Nat.reduceLeDiff, Nat.reduceBEq, Nat.reduceBNe, Int.reduceNeg, Int.reduceAdd, Int.reduceSub, Int.reduceToNat, nilTest, shiftH, Blk.ren, V.ren, renL, initV, frameH, putL, frρ, dI]
    refine acall_ice (by first | rfl | (simp only [xports, xport, hget]; rfl)) (c_r04_Due 2147483647 ts hl) ?_
    try simp (maxSteps := 2000000) -implicitDefEqProofs only [zz, zE, evop, ev, ofVal, tget, tput, ok, V.isUndef, intBin, guardOf, initT, Ch.on, calleeOf, withArgs, told, xport, xports, tids, tidss, hget, hput, Blk.ice, freeze, V.cells, D.cells, V.isAgg, V.one, V.clo, clos, V.toD, loadD, structAt, eqCells, D.scalarEq, sliceOf, partsD, partsV, bound, isPtr, Blk.width, elems, lenOf, splice, D.over, resOf, resV, resVs, ↓reduceIte, reduceCtorEq, ↓reduceDIte, Nat.reduceLT, Nat.reduceEqDiff, Nat.reduceAdd, Nat.reduceSub, Nat.reduceMul, Nat.reduceLeDiff, Nat.reduceBEq, Nat.reduceBNe, Int.reduceNeg, Int.reduceAdd, Int.reduceSub, Int.reduceToNat, nilTest, shiftH, Blk.ren, V.ren, renL, initV, frameH, putL, frρ, dI]
    have hF := c_FirstN ts hl
    have hln := tickDue_len n ts
    cases hL : tickDue 2147483647 ts with
    | nil =>
      rw [hL] at hF
      have f1 : ¬ ((0 : Int) > 0) := by decide
      simp (maxSteps := 2000000) -implicitDefEqProofs only [zz, zE, evop, ev, ofVal, tget, tput, ok, V.isUndef, intBin, guardOf, initT, Ch.on, calleeOf, withArgs, told, xport, xports, tids, tidss, hget, hput, Blk.ice, freeze, V.cells, D.cells, V.isAgg, V.one, V.clo, clos, V.toD, loadD, structAt, eqCells, D.scalarEq, sliceOf, partsD, partsV, bound, isPtr, Blk.width, elems, lenOf, splice, D.over, resOf, resV, resVs, ↓reduceIte, reduceCtorEq, ↓reduceDIte, Nat.reduceLT, Nat.reduceEqDiff, Nat.reduceAdd, Nat.reduceSub, Nat.reduceMul, Nat.reduceLeDiff, Nat.reduceBEq, Nat.reduceBNe, Int.reduceNeg, Int.reduceAdd, Int.reduceSub, Int.reduceToNat, nilTest, shiftH, Blk.ren, V.ren, renL, initV, frameH, putL, frρ, dI, f1]
      refine acall_flat (by first | rfl | (simp only [xports, xport, hget]; rfl)) (c_tick_Right n) rfl ?_
      try simp (maxSteps := 2000000) -implicitDefEqProofs only [zz, zE, evop, ev, ofVal, tget, tput, ok, V.isUndef, intBin, guardOf, initT, Ch.on, calleeOf, withArgs, told, xport, xports, tids, tidss, hget, hput, Blk.ice, freeze, V.cells, D.cells, V.isAgg, V.one, V.clo, clos, V.toD, loadD, structAt, eqCells, D.scalarEq, sliceOf, partsD, partsV, bound, isPtr, Blk.width, elems, lenOf, splice, D.over, resOf, resV, resVs, ↓reduceIte, reduceCtorEq, ↓reduceDIte, Nat.reduceLT, Nat.reduceEqDiff, Nat.reduceAdd, Nat.reduceSub, Nat.reduceMul, Nat.reduceLeDiff, Nat.reduceBEq, Nat.reduceBNe, Int.reduceNeg, Int.reduceAdd, Int.reduceSub, Int.reduceToNat, nilTest, shiftH, Blk.ren, V.ren, renL, initV, frameH, putL, frρ, dI]
      refine acall_flat (by first | rfl | (simp only [xports, xport, hget]; rfl)) (c_r04_Right n) rfl ?_
      try simp (maxSteps := 2000000) -implicitDefEqProofs only [zz, zE, evop, ev, ofVal, tget, tput, ok, V.isUndef, intBin, guardOf, initT, Ch.on, calleeOf, withArgs, told, xport, xports, tids, tidss, hget, hput, Blk.ice, freeze, V.cells, D.cells, V.isAgg, V.one, V.clo, clos, V.toD, loadD, structAt, eqCells, D.scalarEq, sliceOf, partsD, partsV, bound, isPtr, Blk.width, elems, lenOf, splice, D.over, resOf, resV, resVs, ↓reduceIte, reduceCtorEq, ↓reduceDIte, Nat.reduceLT, Nat.reduceEqDiff, Nat.reduceAdd, Nat.reduceSub, Nat.reduceMul, Nat.reduceLeDiff, Nat.reduceBEq, Nat.reduceBNe, Int.reduceNeg, Int.reduceAdd, Int.reduceSub, Int.reduceToNat, nilTest, shiftH, Blk.ren, V.ren, renL, initV, frameH, putL, frρ, dI]
      refine acall_ice (by first | rfl | (simp only [xports, xport, hget]; rfl)) (c_DueN n ts hl) ?_
      try simp (maxSteps := 2000000) -implicitDefEqProofs only [zz, zE, evop, ev, ofVal, tget, tput, ok, V.isUndef, intBin, guardOf, initT, Ch.on, calleeOf, withArgs, told, xport, xports, tids, tidss, hget, hput, Blk.ice, freeze, V.cells, D.cells, V.isAgg, V.one, V.clo, clos, V.toD, loadD, structAt, eqCells, D.scalarEq, sliceOf, partsD, partsV, bound, isPtr, Blk.width, elems, lenOf, splice, D.over, resOf, resV, resVs, ↓reduceIte, reduceCtorEq, ↓reduceDIte, Nat.reduceLT, Nat.reduceEqDiff, Nat.reduceAdd, Nat.reduceSub, Nat.reduceMul, Nat.reduceLeDiff, Nat.reduceBEq, Nat.reduceBNe, Int.reduceNeg, Int.reduceAdd, Int.reduceSub, Int.reduceToNat, nilTest, shiftH, Blk.ren, V.ren, renL, initV, frameH, putL, frρ, dI]
      refine acall_ice (by first | rfl | (simp only [xports, xport, hget]; rfl)) (c_r04_Due n ts hl) ?_
      try simp (maxSteps := 2000000) -implicitDefEqProofs only [zz, zE, evop, ev, ofVal, tget, tput, ok, V.isUndef, intBin, guardOf, initT, Ch.on, calleeOf, withArgs, told, xport, xports, tids, tidss, hget, hput, Blk.ice, freeze, V.cells, D.cells, V.isAgg, V.one, V.clo, clos, V.toD, loadD, structAt, eqCells, D.scalarEq, sliceOf, partsD, partsV, bound, isPtr, Blk.width, elems, lenOf, splice, D.over, resOf, resV, resVs, ↓reduceIte, reduceCtorEq, ↓reduceDIte, Nat.reduceLT, Nat.reduceEqDiff, Nat.reduceAdd, Nat.reduceSub, Nat.reduceMul, Nat.reduceLeDiff, Nat.reduceBEq, Nat.reduceBNe, Int.reduceNeg, Int.reduceAdd, Int.reduceSub, Int.reduceToNat, nilTest, shiftH, Blk.ren, V.ren, renL, initV, frameH, putL, frρ, dI]
      refine acall_flat (by first | rfl | (simp only [xports, xport, hget]; rfl)) (c_Numbers (tickDue n ts) (tickDue n ts) (by omega) (by omega)) rfl ?_
      try simp (maxSteps := 2000000) -implicitDefEqProofs only [zz, zE, evop, ev, ofVal, tget, tput, ok, V.isUndef, intBin, guardOf, initT, Ch.on, calleeOf, withArgs, told, xport, xports, tids, tidss, hget, hput, Blk.ice, freeze, V.cells, D.cells, V.isAgg, V.one, V.clo, clos, V.toD, loadD, structAt, eqCells, D.scalarEq, sliceOf, partsD, partsV, bound, isPtr, Blk.width, elems, lenOf, splice, D.over, resOf, resV, resVs, ↓reduceIte, reduceCtorEq, ↓reduceDIte, Nat.reduceLT, Nat.reduceEqDiff, Nat.reduceAdd, Nat.reduceSub, Nat.reduceMul, Nat.reduceLeDiff, Nat.reduceBEq, Nat.reduceBNe, Int.reduceNeg, Int.reduceAdd, Int.reduceSub, Int.reduceToNat, nilTest, shiftH, Blk.ren, V.ren, renL, initV, frameH, putL, frρ, dI]
      refine acall_flat (by first | rfl | (simp only [xports, xport, hget]; rfl)) (hF) rfl ?_
      try simp (maxSteps := 2000000) -implicitDefEqProofs only [zz, zE, evop, ev, ofVal, tget, tput, ok, V.isUndef, intBin, guardOf, initT, Ch.on, calleeOf, withArgs, told, xport, xports, tids, tidss, hget, hput, Blk.ice, freeze, V.cells, D.cells, V.isAgg, V.one, V.clo, clos, V.toD, loadD, structAt, eqCells, D.scalarEq, sliceOf, partsD, partsV, bound, isPtr, Blk.width, elems, lenOf, splice, D.over, resOf, resV, resVs, ↓reduceIte, reduceCtorEq, ↓reduceDIte, Nat.reduceLT, Nat.reduceEqDiff, Nat.reduceAdd, Nat.reduceSub, Nat.reduceMul, Nat.reduceLeDiff, Nat.reduceBEq, Nat.reduceBNe, Int.reduceNeg, Int.reduceAdd, Int.reduceSub, Int.reduceToNat, nilTest, shiftH, Blk.ren, V.ren, renL, initV, frameH, putL, frρ, dI]
      refine acall_flat (by first | rfl | (simp only [xports, xport, hget]; rfl)) (c_awake04) rfl ?_
      try simp (maxSteps := 2000000) -implicitDefEqProofs only [zz, zE, evop, ev, ofVal, tget, tput, ok, V.isUndef, intBin, guardOf, initT, Ch.on, calleeOf, withArgs, told, xport, xports, tids, tidss, hget, hput, Blk.ice, freeze, V.cells, D.cells, V.isAgg, V.one, V.clo, clos, V.toD, loadD, structAt, eqCells, D.scalarEq, sliceOf, partsD, partsV, bound, isPtr, Blk.width, elems, lenOf, splice, D.over, resOf, resV, resVs, ↓reduceIte, reduceCtorEq, ↓reduceDIte, Nat.reduceLT, Nat.reduceEqDiff, Nat.reduceAdd, Nat.reduceSub, Nat.reduceMul, Nat.reduceLeDiff, Nat.reduceBEq, Nat.reduceBNe, Int.reduceNeg, Int.reduceAdd, Int.reduceSub, Int.reduceToNat, nilTest, shiftH, Blk.ren, V.ren, renL, initV, frameH, putL, frρ, dI]
    | cons x r =>
      rw [hL] at hF
      have f1 : (((r.length + 1 : Nat) : Int) > 0) := by omega
      simp (maxSteps := 2000000) -implicitDefEqProofs only [zz, zE, evop, ev, ofVal, tget, tput, ok, V.isUndef, intBin, guardOf, initT, Ch.on, calleeOf, withArgs, told, xport, xports, tids, tidss, hget, hput, Blk.ice, freeze, V.cells, D.cells, V.isAgg, V.one, V.clo, clos, V.toD, loadD, structAt, eqCells, D.scalarEq, sliceOf, partsD, partsV, bound, isPtr, Blk.width, elems, lenOf, splice, D.over, resOf, resV, resVs, ↓reduceIte, reduceCtorEq, ↓reduceDIte, Nat.reduceLT, Nat.reduceEqDiff, Nat.reduceAdd, Nat.reduceSub, Nat.reduceMul, Nat.reduceLeDiff, Nat.reduceBEq, Nat.reduceBNe, Int.reduceNeg, Int.reduceAdd, Int.reduceSub, Int.reduceToNat, nilTest, shiftH, Blk.ren, V.ren, renL, initV, frameH, putL, frρ, dI, f1]
      refine ⟨by omega, ?_⟩
      refine acall_flat (by first | rfl | (simp only [xports, xport, hget]; rfl)) (c_tick_Right n) rfl ?_
      try simp (maxSteps := 2000000) -implicitDefEqProofs only [zz, zE, evop, ev, ofVal, tget, tput, ok, V.isUndef, intBin, guardOf, initT, Ch.on, calleeOf, withArgs, told, xport, xports, tids, tidss, hget, hput, Blk.ice, freeze, V.cells, D.cells, V.isAgg, V.one, V.clo, clos, V.toD, loadD, structAt, eqCells, D.scalarEq, sliceOf, partsD, partsV, bound, isPtr, Blk.width, elems, lenOf, splice, D.over, resOf, resV, resVs, ↓reduceIte, reduceCtorEq, ↓reduceDIte, Nat.reduceLT, Nat.reduceEqDiff, Nat.reduceAdd, Nat.reduceSub, Nat.reduceMul, Nat.reduceLeDiff, Nat.reduceBEq, Nat.reduceBNe, Int.reduceNeg, Int.reduceAdd, Int.reduceSub, Int.reduceToNat, nilTest, shiftH, Blk.ren, V.ren, renL, initV, frameH, putL, frρ, dI]
      refine acall_flat (by first | rfl | (simp only [xports, xport, hget]; rfl)) (c_r04_Right n) rfl ?_
      try simp (maxSteps := 2000000) -implicitDefEqProofs only [zz, zE, evop, ev, ofVal, tget, tput, ok, V.isUndef, intBin, guardOf, initT, Ch.on, calleeOf, withArgs, told, xport, xports, tids, tidss, hget, hput, Blk.ice, freeze, V.cells, D.cells, V.isAgg, V.one, V.clo, clos, V.toD, loadD, structAt, eqCells, D.scalarEq, sliceOf, partsD, partsV, bound, isPtr, Blk.width, elems, lenOf, splice, D.over, resOf, resV, resVs, ↓reduceIte, reduceCtorEq, ↓reduceDIte, Nat.reduceLT, Nat.reduceEqDiff, Nat.reduceAdd, Nat.reduceSub, Nat.reduceMul, Nat.reduceLeDiff, Nat.reduceBEq, Nat.reduceBNe, Int.reduceNeg, Int.reduceAdd, Int.reduceSub, Int.reduceToNat, nilTest, shiftH, Blk.ren, V.ren, renL, initV, frameH, putL, frρ, dI]
      refine acall_ice (by first | rfl | (simp only [xports, xport, hget]; rfl)) (c_DueN n ts hl) ?_
      try simp (maxSteps := 2000000) -implicitDefEqProofs only [zz, zE, evop, ev, ofVal, tget, tput, ok, V.isUndef, intBin, guardOf, initT, Ch.on, calleeOf, withArgs, told, xport, xports, tids, tidss, hget, hput, Blk.ice, freeze, V.cells, D.cells, V.isAgg, V.one, V.clo, clos, V.toD, loadD, structAt, eqCells, D.scalarEq, sliceOf, partsD, partsV, bound, isPtr, Blk.width, elems, lenOf, splice, D.over, resOf, resV, resVs, ↓reduceIte, reduceCtorEq, ↓reduceDIte, Nat.reduceLT, Nat.reduceEqDiff, Nat.reduceAdd, Nat.reduceSub, Nat.reduceMul, Nat.reduceLeDiff, Nat.reduceBEq, Nat.reduceBNe, Int.reduceNeg, Int.reduceAdd, Int.reduceSub, Int.reduceToNat, nilTest, shiftH, Blk.ren, V.ren, renL, initV, frameH, putL, frρ, dI]
      refine acall_ice (by first | rfl | (simp only [xports, xport, hget]; rfl)) (c_r04_Due n ts hl) ?_
      try simp (maxSteps := 2000000) -implicitDefEqProofs only [zz, zE, evop, ev, ofVal, tget, tput, ok, V.isUndef, intBin, guardOf, initT, Ch.on, calleeOf, withArgs, told, xport, xports, tids, tidss, hget, hput, Blk.ice, freeze, V.cells, D.cells, V.isAgg, V.one, V.clo, clos, V.toD, loadD, structAt, eqCells, D.scalarEq, sliceOf, partsD, partsV, bound, isPtr, Blk.width, elems, lenOf, splice, D.over, resOf, resV, resVs, ↓reduceIte, reduceCtorEq, ↓reduceDIte, Nat.reduceLT, Nat.reduceEqDiff, Nat.reduceAdd, Nat.reduceSub, Nat.reduceMul, Nat.reduceLeDiff, Nat.reduceBEq, Nat.reduceBNe, Int.reduceNeg, Int.reduceAdd, Int.reduceSub, Int.reduceToNat, nilTest, shiftH, Blk.ren, V.ren, renL, initV, frameH, putL, frρ, dI]
      refine acall_flat (by first | rfl | (simp only [xports, xport, hget]; rfl)) (c_Numbers (tickDue n ts) (tickDue n ts) (by omega) (by omega)) rfl ?_
      try simp (maxSteps := 2000000) -implicitDefEqProofs only [zz, zE, evop, ev, ofVal, tget, tput, ok, V.isUndef, intBin, guardOf, initT, Ch.on, calleeOf, withArgs, told, xport, xports, tids, tidss, hget, hput, Blk.ice, freeze, V.cells, D.cells, V.isAgg, V.one, V.clo, clos, V.toD, loadD, structAt, eqCells, D.scalarEq, sliceOf, partsD, partsV, bound, isPtr, Blk.width, elems, lenOf, splice, D.over, resOf, resV, resVs, ↓reduceIte, reduceCtorEq, ↓reduceDIte, Nat.reduceLT, Nat.reduceEqDiff, Nat.reduceAdd, Nat.reduceSub, Nat.reduceMul, Nat.reduceLeDiff, Nat.reduceBEq, Nat.reduceBNe, Int.reduceNeg, Int.reduceAdd, Int.reduceSub, Int.reduceToNat, nilTest, shiftH, Blk.ren, V.ren, renL, initV, frameH, putL, frρ, dI]
      refine acall_flat (by first | rfl | (simp only [xports, xport, hget]; rfl)) (hF) rfl ?_
      try simp (maxSteps := 2000000) -implicitDefEqProofs only [zz, zE, evop, ev, ofVal, tget, tput, ok, V.isUndef, intBin, guardOf, initT, Ch.on, calleeOf, withArgs, told, xport, xports, tids, tidss, hget, hput, Blk.ice, freeze, V.cells, D.cells, V.isAgg, V.one, V.clo, clos, V.toD, loadD, structAt, eqCells, D.scalarEq, sliceOf, partsD, partsV, bound, isPtr, Blk.width, elems, lenOf, splice, D.over, resOf, resV, resVs, ↓reduceIte, reduceCtorEq, ↓reduceDIte, Nat.reduceLT, Nat.reduceEqDiff, Nat.reduceAdd, Nat.reduceSub, Nat.reduceMul, Nat.reduceLeDiff, Nat.reduceBEq, Nat.reduceBNe, Int.reduceNeg, Int.reduceAdd, Int.reduceSub, Int.reduceToNat, nilTest, shiftH, Blk.ren, V.ren, renL, initV, frameH, putL, frρ, dI]
      refine acall_flat (by first | rfl | (simp only [xports, xport, hget]; rfl)) (c_awake04) rfl ?_
      try simp (maxSteps := 2000000) -implicitDefEqProofs only [zz, zE, evop, ev, ofVal, tget, tput, ok, V.isUndef, intBin, guardOf, initT, Ch.on, calleeOf, withArgs, told, xport, xports, tids, tidss, hget, hput, Blk.ice, freeze, V.cells, D.cells, V.isAgg, V.one, V.clo, clos, V.toD, loadD, structAt, eqCells, D.scalarEq, sliceOf, partsD, partsV, bound, isPtr, Blk.width, elems, lenOf, splice, D.over, resOf, resV, resVs, ↓reduceIte, reduceCtorEq, ↓reduceDIte, Nat.reduceLT, Nat.reduceEqDiff, Nat.reduceAdd, Nat.reduceSub, Nat.reduceMul, Nat.reduceLeDiff, Nat.reduceBEq, Nat.reduceBNe, Int.reduceNeg, Int.reduceAdd, Int.reduceSub, Int.reduceToNat, nilTest, shiftH, Blk.ren, V.ren, renL, initV, frameH, putL, frρ, dI]
end Go.Proofs.Ythpapgbpmkgfeaa.AM
