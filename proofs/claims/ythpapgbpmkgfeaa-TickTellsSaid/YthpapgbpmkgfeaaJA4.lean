/- The texts Hd, He, Hf, Hg, Hh, Hi, Gc, Gf, Hj, joined. -/
import Derived.Sort.LotA
import Derived.Sort.LotB
import Derived.Test.YthpapgbpmkgfeaaJA3

/- Sorting parts: the partition. -/
set_option linter.all false
set_option maxRecDepth 100000
set_option maxHeartbeats 4000000
namespace Go.Proofs.Ythpapgbpmkgfeaa.AM
open Go Go.RowKit

/-- While it is split: ahead of i less than p, behind j not. -/
structure Part (c : Int → Int → Int) (zs : List Int) (a b i j : Nat) (ys : List Int) : Prop where
  ps : PS a b zs ys
  lo : a + 1 ≤ i
  le : i ≤ j
  hi : j ≤ b
  less : ∀ x, a < x → x < i → c (ys.getD x 0) (ys.getD a 0) < 0
  more : ∀ x, j ≤ x → x < b → ¬ c (ys.getD x 0) (ys.getD a 0) < 0

theorem sw_getD (l : List Int) {i j : Nat} (hi : i < l.length) (hj : j < l.length) (x : Nat) : (sw l i j).getD x 0 = if x = j then l.getD i 0 else if x = i then l.getD j 0 else l.getD x 0 := by
  unfold sw
  rw [List.getD_eq_getElem?_getD, List.getElem?_set]
  by_cases h : j = x
  · subst h; rw [if_pos rfl, if_pos (by simpa using hj), if_pos rfl]; rfl
  · rw [if_neg h, if_neg (fun e => h e.symm), List.getElem?_set]
    by_cases h2 : i = x
    · subst h2; rw [if_pos rfl, if_pos hi, if_pos rfl]; rfl
    · rw [if_neg h2, if_neg (fun e => h2 e.symm), ← List.getD_eq_getElem?_getD]

noncomputable def ptC : Code := Try.f91.body.getD .skip

def OutB (Q : Nat → List Int → Prop) : V → Heap → Prop := fun r H => ∃ (x : Nat) (h : Bool) (zs' : List Int), r = .tuple [.d (.int .i64 x), .d (.bool h)] ∧ H = [.dat false 1 (zs'.map dI)] ∧ Q x zs'

section
variable {f : Nat × Nat} {cap : List D} {c : Int → Int → Int} {M : Int → Prop} (hC : CmpC f cap c M) (zs : List Int) (hM : ∀ z ∈ zs, M z) (hl : zs.length ≤ 1000000)
include hC hM hl

theorem pt_swap {a b i : Nat} {ys : List Int} (hb : b ≤ zs.length) (hab : a < b) (I : Part c zs a b i i ys) : PS a b zs (sw ys (i - 1) a) ∧ (∀ x, a ≤ x → x < i - 1 → c ((sw ys (i - 1) a).getD x 0) ((sw ys (i - 1) a).getD (i - 1) 0) < 0) ∧ (∀ x, i - 1 < x → x < b → ¬ c ((sw ys (i - 1) a).getD x 0) ((sw ys (i - 1) a).getD (i - 1) 0) < 0) := by
  have hyl := I.ps.len
  have k1 := I.lo
  have k3 := I.hi
  have e : ∀ x, (sw ys (i - 1) a).getD x 0 = if x = a then ys.getD (i - 1) 0 else if x = i - 1 then ys.getD a 0 else ys.getD x 0 := fun x => sw_getD ys (by omega) (by omega) x
  have em : (sw ys (i - 1) a).getD (i - 1) 0 = ys.getD a 0 := by
    rw [e]; by_cases h : i - 1 = a
    · rw [if_pos h, h]
    · rw [if_neg h, if_pos rfl]
  refine ⟨I.ps.trans (PS.sw (by omega) ⟨by omega, by omega⟩ ⟨by omega, by omega⟩), fun x h1 h2 => ?_, fun x h1 h2 => ?_⟩
  · rw [em, e]
    by_cases h : x = a
    · rw [if_pos h]; exact I.less _ (by omega) (by omega)
    · rw [if_neg h, if_neg (by omega)]; exact I.less _ (by omega) (by omega)
  · rw [em, e, if_neg (by omega), if_neg (by omega)]
    exact I.more _ (by omega) (by omega)

theorem pt_end {a b i : Nat} {ys : List Int} (hb : b ≤ zs.length) (hab : a < b) (I : Part c zs a b i i ys) :
    Snd Try.prog (envOf Try.prog) 178 1 (tlN 10 ptC) [(13, .d (.int .i64 ((i : Int) - 1))), (0, .own 0 0 zs.length), (1, .d (.int .i64 a))] [.dat false 1 (ys.map dI)] (FinN (envOf Try.prog) 1 [.tmp 10, .tmp 11] (OutB (fun mid zs' => PS a b zs zs' ∧ a ≤ mid ∧ mid < b ∧ (∀ x, a ≤ x → x < mid → c (zs'.getD x 0) (zs'.getD mid 0) < 0) ∧ (∀ x, mid < x → x < b → ¬ c (zs'.getD x 0) (zs'.getD mid 0) < 0)))) := by
  obtain ⟨s1, s2, s3⟩ := pt_swap hC zs hM hl hb hab I
  have hyl := I.ps.len
  have k1 := I.lo
  have k3 := I.hi
  refine Snd.of_awp envOf_ok hmix ?_
  simp only [ptC, Try.f91, Option.getD_some, tlN]
  obtain ⟨j, rfl⟩ : ∃ j, i = j + 1 := ⟨i - 1, by omega⟩
  have ej : (((j + 1 : Nat) : Int) - 1) = (j : Int) := by omega
  have ej2 : j + 1 - 1 = j := by omega
  rw [ej2] at s1 s2 s3
  simp only [ej]
  have g1 := getD_some (l := ys) (i := a) (by omega)
  have g2 := getD_some (l := ys) (i := j) (by omega)
  have g3 : (ys.set j (ys.getD a 0))[a]? = some ((ys.set j (ys.getD a 0)).getD a 0) := getD_some (by simp; omega)
  have g4 : (ys.set j (ys.getD a 0)).set a (ys.getD j 0) = sw ys j a := rfl
  simp (maxSteps := 2000000) -implicitDefEqProofs only [zz, zE, evop, ev, ofVal, tget, tput, ok, V.isUndef, intBin, guardOf, initT, Ch.on, calleeOf, withArgs, told, xport, xports, tids, tidss, hget, hput, Blk.ice, freeze, V.cells, D.cells, V.isAgg, V.one, V.clo, clos, V.toD, loadD, structAt, eqCells, D.scalarEq, sliceOf, partsD, partsV, bound, isPtr, Blk.width, elems, lenOf, splice, D.over, resOf, resV, resVs, ↓reduceIte, reduceCtorEq, ↓reduceDIte, Nat.reduceLT, Nat.reduceEqDiff, Nat.reduceAdd, Nat.reduceSub, Nat.reduceMul, Nat.reduceLeDiff, Nat.reduceBEq, Nat.reduceBNe, Int.reduceNeg, Int.reduceAdd, Int.reduceSub, Int.reduceToNat, nilTest, shiftH, Blk.ren, V.ren, renL, initV, frameH, putL, frρ, dI, finN_ret, finN_normal, cutK_normal, cutK_ret, cutK_exit]

  refine wdraw_plan [⟨[], false, [164, 165, 166, 167, 168, 169, 170, 171, 172, 173, 174], [], false⟩, ⟨[], false, [163, 165, 166, 167, 168, 169, 170, 171, 172, 173, 174], [0], false⟩, ⟨[], false, [163, 164, 165, 166, 167, 168, 169, 170, 171, 172, 173, 174, 175, 176], [0, 1], true⟩, ⟨[], false, [163, 164, 165, 166, 167, 168, 169, 170, 171, 172, 173, 174, 175, 176], [0, 1, 2], true⟩, ⟨[], false, [163, 164, 165, 166, 168, 171, 172, 173, 174], [0, 1, 2, 3], false⟩, ⟨[], false, [163, 164, 165, 166, 167, 171, 172, 173, 174], [0, 1, 2, 3, 4], false⟩, ⟨[4, 5], false, [163, 164, 165, 166, 171, 172, 173, 174], [0, 1, 2, 3], false⟩, ⟨[4, 5, 6], false, [163, 164, 165, 166, 171, 172, 173, 174], [0, 1, 2, 3], false⟩, ⟨[], false, [163, 164, 165, 166, 167, 168, 169, 170, 172], [0, 1, 2, 3, 4, 5, 6, 7], false⟩, ⟨[], false, [163, 164, 165, 166, 167, 168, 169, 170, 171], [0, 1, 2, 3, 4, 5, 6, 7, 8], false⟩, ⟨[8, 9], false, [163, 164, 165, 166, 167, 168, 169, 170], [0, 1, 2, 3, 4, 5, 6, 7], false⟩, ⟨[8, 9, 10], false, [163, 164, 165, 166, 167, 168, 169, 170], [0, 1, 2, 3, 4, 5, 6, 7], false⟩, ⟨[0, 1, 4, 5, 6, 7, 8, 9, 10, 11], false, [165, 166], [2, 3], false⟩, ⟨[0, 1, 4, 5, 6, 7, 8, 9, 10, 11, 12], true, [165, 166], [], false⟩, ⟨[0, 1, 2, 3, 4, 5, 6, 7, 8, 9, 10, 11, 12, 13], true, [], [], false⟩, ⟨[0, 1, 2, 3, 4, 5, 6, 7, 8, 9, 10, 11, 12, 13, 14], true, [], [], false⟩] (by decide) ?_
  simp (maxSteps := 2000000) -implicitDefEqProofs only [zz, zE, evop, ev, ofVal, tget, tput, ok, V.isUndef, intBin, guardOf, initT, Ch.on, calleeOf, withArgs, told, xport, xports, tids, tidss, hget, hput, Blk.ice, freeze, V.cells, D.cells, V.isAgg, V.one, V.clo, clos, V.toD, loadD, structAt, eqCells, D.scalarEq, sliceOf, partsD, partsV, bound, isPtr, Blk.width, elems, lenOf, splice, D.over, resOf, resV, resVs, ↓reduceIte, reduceCtorEq, ↓reduceDIte, Nat.reduceLT, Nat.reduceEqDiff, Nat.reduceAdd, Nat.reduceSub, Nat.reduceMul, Nat.reduceLeDiff, Nat.reduceBEq, Nat.reduceBNe, Int.reduceNeg, Int.reduceAdd, Int.reduceSub, Int.reduceToNat, nilTest, shiftH, Blk.ren, V.ren, renL, initV, frameH, putL, frρ, dI, finN_ret, finN_normal, cutK_normal, cutK_ret, cutK_exit, List.getElem?_map, g1, g2, g3, Option.map_some, Int.natCast_nonneg, set_dI, g4]
  refine ⟨by omega, by omega, by omega, by omega, ?_⟩
  exact ⟨_, _, ⟨j, false, _, rfl, rfl, s1, by omega, by omega, s2, s3⟩, Weak.trimsM 1 (by simp) rfl (by simp [tget, V.lower, lowerL]) (by simp [Blk.lower, V.lower, lowerL])⟩
theorem pt_main {a b i j : Nat} {ys : List Int} (hb : b ≤ zs.length) (hab : a < b) (I : Part c zs a b i j ys) :
    Snd Try.prog (envOf Try.prog) 178 1 (tlN 9 ptC) [(12, .d (.int .i64 (i : Int))), (13, .d (.int .i64 ((j : Int) - 1))), (0, .own 0 0 zs.length), (1, .d (.int .i64 a)), (4, .func f (cap.map V.d))] [.dat false 1 (ys.map dI)] (FinN (envOf Try.prog) 1 [.tmp 10, .tmp 11] (OutB (fun mid zs' => PS a b zs zs' ∧ a ≤ mid ∧ mid < b ∧ (∀ x, a ≤ x → x < mid → c (zs'.getD x 0) (zs'.getD mid 0) < 0) ∧ (∀ x, mid < x → x < b → ¬ c (zs'.getD x 0) (zs'.getD mid 0) < 0)))) := by
  have tail : ∀ i ys, Part c zs a b i i ys → _ := fun i ys I => pt_end hC zs hM hl hb hab (i := i) (ys := ys) I
  simp only [ptC, Try.f91, Option.getD_some, tlN] at tail ⊢
  refine Snd.upto envOf_ok hmix 1 _ ?_
  simp only [hdN, tlN]
  simp (maxSteps := 2000000) -implicitDefEqProofs only [zz, zE, evop, ev, ofVal, tget, tput, ok, V.isUndef, intBin, guardOf, initT, Ch.on, calleeOf, withArgs, told, xport, xports, tids, tidss, hget, hput, Blk.ice, freeze, V.cells, D.cells, V.isAgg, V.one, V.clo, clos, V.toD, loadD, structAt, eqCells, D.scalarEq, sliceOf, partsD, partsV, bound, isPtr, Blk.width, elems, lenOf, splice, D.over, resOf, resV, resVs, ↓reduceIte, reduceCtorEq, ↓reduceDIte, Nat.reduceLT, Nat.reduceEqDiff, Nat.reduceAdd, Nat.reduceSub, Nat.reduceMul, Nat.reduceLeDiff, Nat.reduceBEq, Nat.reduceBNe, Int.reduceNeg, Int.reduceAdd, Int.reduceSub, Int.reduceToNat, nilTest, shiftH, Blk.ren, V.ren, renL, initV, frameH, putL, frρ, dI, finN_ret, finN_normal, cutK_normal, cutK_ret, cutK_exit]
  refine wloop_ind (σ := Nat × Nat × List Int) (fun s => s.2.1 - s.1) (fun s => [(12, .d (.int .i64 (s.1 : Int))), (13, .d (.int .i64 ((s.2.1 : Int) - 1))), (0, .own 0 0 zs.length), (1, .d (.int .i64 a)), (4, .func f (cap.map V.d))]) (fun s => [.dat false 1 (s.2.2.map dI)]) (fun s => Part c zs a b s.1 s.2.1 s.2.2) (i, j, ys) I (Weak.sub (by simp [tget])) ?_
  clear I
  rintro ⟨i0, j, ys⟩ I0
  simp only at I0
  simp (maxSteps := 2000000) -implicitDefEqProofs only [zz, zE, evop, ev, ofVal, tget, tput, ok, V.isUndef, intBin, guardOf, initT, Ch.on, calleeOf, withArgs, told, xport, xports, tids, tidss, hget, hput, Blk.ice, freeze, V.cells, D.cells, V.isAgg, V.one, V.clo, clos, V.toD, loadD, structAt, eqCells, D.scalarEq, sliceOf, partsD, partsV, bound, isPtr, Blk.width, elems, lenOf, splice, D.over, resOf, resV, resVs, ↓reduceIte, reduceCtorEq, ↓reduceDIte, Nat.reduceLT, Nat.reduceEqDiff, Nat.reduceAdd, Nat.reduceSub, Nat.reduceMul, Nat.reduceLeDiff, Nat.reduceBEq, Nat.reduceBNe, Int.reduceNeg, Int.reduceAdd, Int.reduceSub, Int.reduceToNat, nilTest, shiftH, Blk.ren, V.ren, renL, initV, frameH, putL, frρ, dI, finN_ret, finN_normal, cutK_normal, cutK_ret, cutK_exit]
  refine wloop_ind (σ := Nat) (fun i => j - i) (fun i => [(12, .d (.int .i64 (i : Int))), (13, .d (.int .i64 ((j : Int) - 1))), (0, .own 0 0 zs.length), (1, .d (.int .i64 a)), (4, .func f (cap.map V.d))]) (fun _ => [.dat false 1 (ys.map dI)]) (fun i => Part c zs a b i j ys ∧ i0 ≤ i) i0 ⟨I0, by omega⟩ (Weak.trimsM 1 (by simp) rfl (by simp [tget, V.lower, lowerL_ds]) (by simp [Blk.lower])) ?_
  clear I0
  rintro i ⟨I1, hii⟩
  have hyl := I1.ps.len
  have k1 := I1.lo
  have k2 := I1.le
  have k3 := I1.hi
  have ga := getD_some (l := ys) (i := a) (by omega)
  rcases (show ((i : Int) ≤ (j : Int) - 1 ∧ c (ys.getD i 0) (ys.getD a 0) < 0) ∨ ((i : Int) ≤ (j : Int) - 1 ∧ ¬ c (ys.getD i 0) (ys.getD a 0) < 0) ∨ ¬ (i : Int) ≤ (j : Int) - 1 by
    by_cases h1 : (i : Int) ≤ (j : Int) - 1
    · by_cases h2 : c (ys.getD i 0) (ys.getD a 0) < 0
      · exact .inl ⟨h1, h2⟩
      · exact .inr (.inl ⟨h1, h2⟩)
    · exact .inr (.inr h1)) with ⟨hij, hlt⟩ | ⟨hij, hlt⟩ | hij
  case' inl =>
    have hwi : IntKind.i64.wrap ((i : Int) + 1) = ((i + 1 : Nat) : Int) := by rw [wrap_in (by omega)]; omega
    have gi := getD_some (l := ys) (i := i) (by omega)
    simp (maxSteps := 2000000) -implicitDefEqProofs only [zz, zE, evop, ev, ofVal, tget, tput, ok, V.isUndef, intBin, guardOf, initT, Ch.on, calleeOf, withArgs, told, xport, xports, tids, tidss, hget, hput, Blk.ice, freeze, V.cells, D.cells, V.isAgg, V.one, V.clo, clos, V.toD, loadD, structAt, eqCells, D.scalarEq, sliceOf, partsD, partsV, bound, isPtr, Blk.width, elems, lenOf, splice, D.over, resOf, resV, resVs, ↓reduceIte, reduceCtorEq, ↓reduceDIte, Nat.reduceLT, Nat.reduceEqDiff, Nat.reduceAdd, Nat.reduceSub, Nat.reduceMul, Nat.reduceLeDiff, Nat.reduceBEq, Nat.reduceBNe, Int.reduceNeg, Int.reduceAdd, Int.reduceSub, Int.reduceToNat, nilTest, shiftH, Blk.ren, V.ren, renL, initV, frameH, putL, frρ, dI, finN_ret, finN_normal, cutK_normal, cutK_ret, cutK_exit, hij]
    refine wdraw_plan [⟨[], false, [106], [], false⟩, ⟨[], false, [105], [0], false⟩, ⟨[0, 1], true, [], [], false⟩, ⟨[0, 1, 2], true, [], [], false⟩, ⟨[0, 1, 2, 3], false, [110, 111, 112, 113, 114, 115, 116, 117], [], false⟩, ⟨[0, 1, 2, 3], false, [109, 111, 114, 115, 116, 117], [4], false⟩, ⟨[0, 1, 2, 3], false, [109, 110, 114, 115, 116, 117], [4, 5], false⟩, ⟨[0, 1, 2, 3, 5, 6], false, [109, 114, 115, 116, 117], [4], false⟩, ⟨[0, 1, 2, 3, 5, 6, 7], false, [109, 114, 115, 116, 117], [4], false⟩, ⟨[0, 1, 2, 3], false, [109, 110, 111, 112, 113, 115], [4, 5, 6, 7, 8], false⟩, ⟨[0, 1, 2, 3], false, [109, 110, 111, 112, 113, 114], [4, 5, 6, 7, 8, 9], false⟩, ⟨[0, 1, 2, 3, 9, 10], false, [109, 110, 111, 112, 113], [4, 5, 6, 7, 8], false⟩, ⟨[0, 1, 2, 3, 9, 10, 11], false, [109, 110, 111, 112, 113], [4, 5, 6, 7, 8], false⟩, ⟨[0, 1, 2, 3, 4, 5, 6, 7, 8, 9, 10, 11, 12], false, [], [], false⟩, ⟨[0, 1, 2, 3, 4, 5, 6, 7, 8, 9, 10, 11, 12, 13], false, [], [], false⟩, ⟨[0, 1, 2, 3, 4, 5, 6, 7, 8, 9, 10, 11, 12, 13, 14], true, [], [], false⟩] (by decide) ?_
    simp (maxSteps := 2000000) -implicitDefEqProofs only [zz, zE, evop, ev, ofVal, tget, tput, ok, V.isUndef, intBin, guardOf, initT, Ch.on, calleeOf, withArgs, told, xport, xports, tids, tidss, hget, hput, Blk.ice, freeze, V.cells, D.cells, V.isAgg, V.one, V.clo, clos, V.toD, loadD, structAt, eqCells, D.scalarEq, sliceOf, partsD, partsV, bound, isPtr, Blk.width, elems, lenOf, splice, D.over, resOf, resV, resVs, ↓reduceIte, reduceCtorEq, ↓reduceDIte, Nat.reduceLT, Nat.reduceEqDiff, Nat.reduceAdd, Nat.reduceSub, Nat.reduceMul, Nat.reduceLeDiff, Nat.reduceBEq, Nat.reduceBNe, Int.reduceNeg, Int.reduceAdd, Int.reduceSub, Int.reduceToNat, nilTest, shiftH, Blk.ren, V.ren, renL, initV, frameH, putL, frρ, dI, finN_ret, finN_normal, cutK_normal, cutK_ret, cutK_exit, hij, List.getElem?_map, gi, ga, Option.map_some, Int.natCast_nonneg]
    refine ⟨by omega, by omega, ?_⟩
    refine dcall_flat (ds := cap.take f.2 ++ (dI (ys.getD i 0) :: dI (ys.getD a 0) :: cap.drop f.2)) (xports_two cap f.2 _ _ hC.1) (hC.2 _ _ (hM _ (I1.ps.perm.mem_iff.1 (List.mem_of_getElem? gi))) (hM _ (I1.ps.perm.mem_iff.1 (List.mem_of_getElem? ga)))) rfl ?_
    simp (maxSteps := 2000000) -implicitDefEqProofs only [zz, zE, evop, ev, ofVal, tget, tput, ok, V.isUndef, intBin, guardOf, initT, Ch.on, calleeOf, withArgs, told, xport, xports, tids, tidss, hget, hput, Blk.ice, freeze, V.cells, D.cells, V.isAgg, V.one, V.clo, clos, V.toD, loadD, structAt, eqCells, D.scalarEq, sliceOf, partsD, partsV, bound, isPtr, Blk.width, elems, lenOf, splice, D.over, resOf, resV, resVs, ↓reduceIte, reduceCtorEq, ↓reduceDIte, Nat.reduceLT, Nat.reduceEqDiff, Nat.reduceAdd, Nat.reduceSub, Nat.reduceMul, Nat.reduceLeDiff, Nat.reduceBEq, Nat.reduceBNe, Int.reduceNeg, Int.reduceAdd, Int.reduceSub, Int.reduceToNat, nilTest, shiftH, Blk.ren, V.ren, renL, initV, frameH, putL, frρ, dI, finN_ret, finN_normal, cutK_normal, cutK_ret, cutK_exit, hlt]
    exact ⟨i + 1, ⟨⟨I1.ps, by omega, by omega, I1.hi, fun x h1 h2 => by
      by_cases hx : x = i
      · rw [hx]; exact hlt
      · exact I1.less x h1 (by omega), I1.more⟩, by omega⟩, by omega, Weak.trimsM 1 (by simp) rfl (by simp [tget, hwi, V.lower, lowerL_ds]) (by simp [Blk.lower])⟩
  case' inr.inl =>
    have hwi : IntKind.i64.wrap ((i : Int) + 1) = ((i + 1 : Nat) : Int) := by rw [wrap_in (by omega)]; omega
    have gi := getD_some (l := ys) (i := i) (by omega)
    have e1 : i < j → ¬ c (ys.getD i 0) (ys.getD a 0) < 0 := fun _ => hlt
    simp (maxSteps := 2000000) -implicitDefEqProofs only [zz, zE, evop, ev, ofVal, tget, tput, ok, V.isUndef, intBin, guardOf, initT, Ch.on, calleeOf, withArgs, told, xport, xports, tids, tidss, hget, hput, Blk.ice, freeze, V.cells, D.cells, V.isAgg, V.one, V.clo, clos, V.toD, loadD, structAt, eqCells, D.scalarEq, sliceOf, partsD, partsV, bound, isPtr, Blk.width, elems, lenOf, splice, D.over, resOf, resV, resVs, ↓reduceIte, reduceCtorEq, ↓reduceDIte, Nat.reduceLT, Nat.reduceEqDiff, Nat.reduceAdd, Nat.reduceSub, Nat.reduceMul, Nat.reduceLeDiff, Nat.reduceBEq, Nat.reduceBNe, Int.reduceNeg, Int.reduceAdd, Int.reduceSub, Int.reduceToNat, nilTest, shiftH, Blk.ren, V.ren, renL, initV, frameH, putL, frρ, dI, finN_ret, finN_normal, cutK_normal, cutK_ret, cutK_exit, hij]
    refine wdraw_plan [⟨[], false, [106], [], false⟩, ⟨[], false, [105], [0], false⟩, ⟨[0, 1], true, [], [], false⟩, ⟨[0, 1, 2], true, [], [], false⟩, ⟨[0, 1, 2, 3], false, [110, 111, 112, 113, 114, 115, 116, 117], [], false⟩, ⟨[0, 1, 2, 3], false, [109, 111, 114, 115, 116, 117], [4], false⟩, ⟨[0, 1, 2, 3], false, [109, 110, 114, 115, 116, 117], [4, 5], false⟩, ⟨[0, 1, 2, 3, 5, 6], false, [109, 114, 115, 116, 117], [4], false⟩, ⟨[0, 1, 2, 3, 5, 6, 7], false, [109, 114, 115, 116, 117], [4], false⟩, ⟨[0, 1, 2, 3], false, [109, 110, 111, 112, 113, 115], [4, 5, 6, 7, 8], false⟩, ⟨[0, 1, 2, 3], false, [109, 110, 111, 112, 113, 114], [4, 5, 6, 7, 8, 9], false⟩, ⟨[0, 1, 2, 3, 9, 10], false, [109, 110, 111, 112, 113], [4, 5, 6, 7, 8], false⟩, ⟨[0, 1, 2, 3, 9, 10, 11], false, [109, 110, 111, 112, 113], [4, 5, 6, 7, 8], false⟩, ⟨[0, 1, 2, 3, 4, 5, 6, 7, 8, 9, 10, 11, 12], false, [], [], false⟩, ⟨[0, 1, 2, 3, 4, 5, 6, 7, 8, 9, 10, 11, 12, 13], false, [], [], false⟩, ⟨[0, 1, 2, 3, 4, 5, 6, 7, 8, 9, 10, 11, 12, 13, 14], true, [], [], false⟩] (by decide) ?_
    simp (maxSteps := 2000000) -implicitDefEqProofs only [zz, zE, evop, ev, ofVal, tget, tput, ok, V.isUndef, intBin, guardOf, initT, Ch.on, calleeOf, withArgs, told, xport, xports, tids, tidss, hget, hput, Blk.ice, freeze, V.cells, D.cells, V.isAgg, V.one, V.clo, clos, V.toD, loadD, structAt, eqCells, D.scalarEq, sliceOf, partsD, partsV, bound, isPtr, Blk.width, elems, lenOf, splice, D.over, resOf, resV, resVs, ↓reduceIte, reduceCtorEq, ↓reduceDIte, Nat.reduceLT, Nat.reduceEqDiff, Nat.reduceAdd, Nat.reduceSub, Nat.reduceMul, Nat.reduceLeDiff, Nat.reduceBEq, Nat.reduceBNe, Int.reduceNeg, Int.reduceAdd, Int.reduceSub, Int.reduceToNat, nilTest, shiftH, Blk.ren, V.ren, renL, initV, frameH, putL, frρ, dI, finN_ret, finN_normal, cutK_normal, cutK_ret, cutK_exit, hij, List.getElem?_map, gi, ga, Option.map_some, Int.natCast_nonneg]
    refine ⟨by omega, by omega, ?_⟩
    refine dcall_flat (ds := cap.take f.2 ++ (dI (ys.getD i 0) :: dI (ys.getD a 0) :: cap.drop f.2)) (xports_two cap f.2 _ _ hC.1) (hC.2 _ _ (hM _ (I1.ps.perm.mem_iff.1 (List.mem_of_getElem? gi))) (hM _ (I1.ps.perm.mem_iff.1 (List.mem_of_getElem? ga)))) rfl ?_
    simp (maxSteps := 2000000) -implicitDefEqProofs only [zz, zE, evop, ev, ofVal, tget, tput, ok, V.isUndef, intBin, guardOf, initT, Ch.on, calleeOf, withArgs, told, xport, xports, tids, tidss, hget, hput, Blk.ice, freeze, V.cells, D.cells, V.isAgg, V.one, V.clo, clos, V.toD, loadD, structAt, eqCells, D.scalarEq, sliceOf, partsD, partsV, bound, isPtr, Blk.width, elems, lenOf, splice, D.over, resOf, resV, resVs, ↓reduceIte, reduceCtorEq, ↓reduceDIte, Nat.reduceLT, Nat.reduceEqDiff, Nat.reduceAdd, Nat.reduceSub, Nat.reduceMul, Nat.reduceLeDiff, Nat.reduceBEq, Nat.reduceBNe, Int.reduceNeg, Int.reduceAdd, Int.reduceSub, Int.reduceToNat, nilTest, shiftH, Blk.ren, V.ren, renL, initV, frameH, putL, frρ, dI, finN_ret, finN_normal, cutK_normal, cutK_ret, cutK_exit, hlt]
  case' inr.inr =>
    have e1 : i < j → ¬ c (ys.getD i 0) (ys.getD a 0) < 0 := fun h => absurd h (by omega)
    simp (maxSteps := 2000000) -implicitDefEqProofs only [zz, zE, evop, ev, ofVal, tget, tput, ok, V.isUndef, intBin, guardOf, initT, Ch.on, calleeOf, withArgs, told, xport, xports, tids, tidss, hget, hput, Blk.ice, freeze, V.cells, D.cells, V.isAgg, V.one, V.clo, clos, V.toD, loadD, structAt, eqCells, D.scalarEq, sliceOf, partsD, partsV, bound, isPtr, Blk.width, elems, lenOf, splice, D.over, resOf, resV, resVs, ↓reduceIte, reduceCtorEq, ↓reduceDIte, Nat.reduceLT, Nat.reduceEqDiff, Nat.reduceAdd, Nat.reduceSub, Nat.reduceMul, Nat.reduceLeDiff, Nat.reduceBEq, Nat.reduceBNe, Int.reduceNeg, Int.reduceAdd, Int.reduceSub, Int.reduceToNat, nilTest, shiftH, Blk.ren, V.ren, renL, initV, frameH, putL, frρ, dI, finN_ret, finN_normal, cutK_normal, cutK_ret, cutK_exit, hij]
    refine wdraw_plan [⟨[], false, [106], [], false⟩, ⟨[], false, [105], [0], false⟩, ⟨[0, 1], true, [], [], false⟩, ⟨[0, 1, 2], true, [], [], false⟩, ⟨[0, 1, 2, 3], false, [110, 111, 112, 113, 114, 115, 116, 117], [], false⟩, ⟨[0, 1, 2, 3], false, [109, 111, 114, 115, 116, 117], [4], false⟩, ⟨[0, 1, 2, 3], false, [109, 110, 114, 115, 116, 117], [4, 5], false⟩, ⟨[0, 1, 2, 3, 5, 6], false, [109, 114, 115, 116, 117], [4], false⟩, ⟨[0, 1, 2, 3, 5, 6, 7], false, [109, 114, 115, 116, 117], [4], false⟩, ⟨[0, 1, 2, 3], false, [109, 110, 111, 112, 113, 115], [4, 5, 6, 7, 8], false⟩, ⟨[0, 1, 2, 3], false, [109, 110, 111, 112, 113, 114], [4, 5, 6, 7, 8, 9], false⟩, ⟨[0, 1, 2, 3, 9, 10], false, [109, 110, 111, 112, 113], [4, 5, 6, 7, 8], false⟩, ⟨[0, 1, 2, 3, 9, 10, 11], false, [109, 110, 111, 112, 113], [4, 5, 6, 7, 8], false⟩, ⟨[0, 1, 2, 3, 4, 5, 6, 7, 8, 9, 10, 11, 12], false, [], [], false⟩, ⟨[0, 1, 2, 3, 4, 5, 6, 7, 8, 9, 10, 11, 12, 13], false, [], [], false⟩, ⟨[0, 1, 2, 3, 4, 5, 6, 7, 8, 9, 10, 11, 12, 13, 14], true, [], [], false⟩] (by decide) ?_
    simp (maxSteps := 2000000) -implicitDefEqProofs only [zz, zE, evop, ev, ofVal, tget, tput, ok, V.isUndef, intBin, guardOf, initT, Ch.on, calleeOf, withArgs, told, xport, xports, tids, tidss, hget, hput, Blk.ice, freeze, V.cells, D.cells, V.isAgg, V.one, V.clo, clos, V.toD, loadD, structAt, eqCells, D.scalarEq, sliceOf, partsD, partsV, bound, isPtr, Blk.width, elems, lenOf, splice, D.over, resOf, resV, resVs, ↓reduceIte, reduceCtorEq, ↓reduceDIte, Nat.reduceLT, Nat.reduceEqDiff, Nat.reduceAdd, Nat.reduceSub, Nat.reduceMul, Nat.reduceLeDiff, Nat.reduceBEq, Nat.reduceBNe, Int.reduceNeg, Int.reduceAdd, Int.reduceSub, Int.reduceToNat, nilTest, shiftH, Blk.ren, V.ren, renL, initV, frameH, putL, frρ, dI, finN_ret, finN_normal, cutK_normal, cutK_ret, cutK_exit, hij]
  all_goals
    have I0 := I1
    clear hyl k1 k2 k3 I1
    obtain ⟨jo, hjo⟩ : ∃ jo, jo = j := ⟨_, rfl⟩
    rw [← hjo] at e1
    refine wloop_ind (σ := Nat) (fun j => j) (fun j => [(13, .d (.int .i64 ((j : Int) - 1))), (12, .d (.int .i64 (i : Int))), (0, .own 0 0 zs.length), (1, .d (.int .i64 a)), (4, .func f (cap.map V.d))]) (fun _ => [.dat false 1 (ys.map dI)]) (fun j => Part c zs a b i j ys ∧ j ≤ jo) j ⟨I0, by omega⟩ (Weak.trimsM 1 (by simp) rfl (by simp [tget, V.lower, lowerL_ds]) (by simp [Blk.lower])) ?_
    clear I0
    rintro j ⟨I1, hjj⟩
    have hyl := I1.ps.len
    have k1 := I1.lo
    have k2 := I1.le
    have k3 := I1.hi
    have ga := getD_some (l := ys) (i := a) (by omega)
    rcases (show ((i : Int) ≤ (j : Int) - 1 ∧ ¬ c (ys.getD (j - 1) 0) (ys.getD a 0) < 0) ∨ ((i : Int) ≤ (j : Int) - 1 ∧ ¬ ¬ c (ys.getD (j - 1) 0) (ys.getD a 0) < 0) ∨ ¬ (i : Int) ≤ (j : Int) - 1 by
      by_cases h1 : (i : Int) ≤ (j : Int) - 1
      · by_cases h2 : ¬ c (ys.getD (j - 1) 0) (ys.getD a 0) < 0
        · exact .inl ⟨h1, h2⟩
        · exact .inr (.inl ⟨h1, h2⟩)
      · exact .inr (.inr h1)) with ⟨hij, hlt⟩ | ⟨hij, hlt⟩ | hij
    case' inl =>
      obtain ⟨j1, rfl⟩ : ∃ j1, j = j1 + 1 := ⟨j - 1, by omega⟩
      have ej : (((j1 + 1 : Nat) : Int) - 1) = (j1 : Int) := by omega
      have ej2 : j1 + 1 - 1 = j1 := by omega
      rw [ej2] at hlt
      simp only [ej] at hij ⊢
      have hwi : IntKind.i64.wrap ((j1 : Int) - 1) = (j1 : Int) - 1 := by rw [wrap_in (by omega)]
      have gi := getD_some (l := ys) (i := j1) (by omega)
      simp (maxSteps := 2000000) -implicitDefEqProofs only [zz, zE, evop, ev, ofVal, tget, tput, ok, V.isUndef, intBin, guardOf, initT, Ch.on, calleeOf, withArgs, told, xport, xports, tids, tidss, hget, hput, Blk.ice, freeze, V.cells, D.cells, V.isAgg, V.one, V.clo, clos, V.toD, loadD, structAt, eqCells, D.scalarEq, sliceOf, partsD, partsV, bound, isPtr, Blk.width, elems, lenOf, splice, D.over, resOf, resV, resVs, ↓reduceIte, reduceCtorEq, ↓reduceDIte, Nat.reduceLT, Nat.reduceEqDiff, Nat.reduceAdd, Nat.reduceSub, Nat.reduceMul, Nat.reduceLeDiff, Nat.reduceBEq, Nat.reduceBNe, Int.reduceNeg, Int.reduceAdd, Int.reduceSub, Int.reduceToNat, nilTest, shiftH, Blk.ren, V.ren, renL, initV, frameH, putL, frρ, dI, finN_ret, finN_normal, cutK_normal, cutK_ret, cutK_exit, hij]
      refine wdraw_plan [⟨[], false, [124], [], false⟩, ⟨[], false, [123], [0], false⟩, ⟨[0, 1], true, [], [], false⟩, ⟨[0, 1, 2], true, [], [], false⟩, ⟨[0, 1, 2, 3], false, [128, 129, 130, 131, 132, 133, 134, 135], [], false⟩, ⟨[0, 1, 2, 3], false, [127, 129, 132, 133, 134, 135], [4], false⟩, ⟨[0, 1, 2, 3], false, [127, 128, 132, 133, 134, 135], [4, 5], false⟩, ⟨[0, 1, 2, 3, 5, 6], false, [127, 132, 133, 134, 135], [4], false⟩, ⟨[0, 1, 2, 3, 5, 6, 7], false, [127, 132, 133, 134, 135], [4], false⟩, ⟨[0, 1, 2, 3], false, [127, 128, 129, 130, 131, 133], [4, 5, 6, 7, 8], false⟩, ⟨[0, 1, 2, 3], false, [127, 128, 129, 130, 131, 132], [4, 5, 6, 7, 8, 9], false⟩, ⟨[0, 1, 2, 3, 9, 10], false, [127, 128, 129, 130, 131], [4, 5, 6, 7, 8], false⟩, ⟨[0, 1, 2, 3, 9, 10, 11], false, [127, 128, 129, 130, 131], [4, 5, 6, 7, 8], false⟩, ⟨[0, 1, 2, 3, 4, 5, 6, 7, 8, 9, 10, 11, 12], false, [], [], false⟩, ⟨[0, 1, 2, 3, 4, 5, 6, 7, 8, 9, 10, 11, 12, 13], false, [], [], false⟩, ⟨[0, 1, 2, 3, 4, 5, 6, 7, 8, 9, 10, 11, 12, 13, 14], false, [], [], false⟩, ⟨[0, 1, 2, 3, 4, 5, 6, 7, 8, 9, 10, 11, 12, 13, 14, 15], true, [], [], false⟩] (by decide) ?_
      simp (maxSteps := 2000000) -implicitDefEqProofs only [zz, zE, evop, ev, ofVal, tget, tput, ok, V.isUndef, intBin, guardOf, initT, Ch.on, calleeOf, withArgs, told, xport, xports, tids, tidss, hget, hput, Blk.ice, freeze, V.cells, D.cells, V.isAgg, V.one, V.clo, clos, V.toD, loadD, structAt, eqCells, D.scalarEq, sliceOf, partsD, partsV, bound, isPtr, Blk.width, elems, lenOf, splice, D.over, resOf, resV, resVs, ↓reduceIte, reduceCtorEq, ↓reduceDIte, Nat.reduceLT, Nat.reduceEqDiff, Nat.reduceAdd, Nat.reduceSub, Nat.reduceMul, Nat.reduceLeDiff, Nat.reduceBEq, Nat.reduceBNe, Int.reduceNeg, Int.reduceAdd, Int.reduceSub, Int.reduceToNat, nilTest, shiftH, Blk.ren, V.ren, renL, initV, frameH, putL, frρ, dI, finN_ret, finN_normal, cutK_normal, cutK_ret, cutK_exit, hij, List.getElem?_map, gi, ga, Option.map_some, Int.natCast_nonneg]
      refine ⟨by omega, by omega, ?_⟩
      refine dcall_flat (ds := cap.take f.2 ++ (dI (ys.getD j1 0) :: dI (ys.getD a 0) :: cap.drop f.2)) (xports_two cap f.2 _ _ hC.1) (hC.2 _ _ (hM _ (I1.ps.perm.mem_iff.1 (List.mem_of_getElem? gi))) (hM _ (I1.ps.perm.mem_iff.1 (List.mem_of_getElem? ga)))) rfl ?_
      have hd : decide (c (ys.getD j1 0) (ys.getD a 0) < 0) = false := by simpa using hlt
      simp (maxSteps := 2000000) -implicitDefEqProofs only [zz, zE, evop, ev, ofVal, tget, tput, ok, V.isUndef, intBin, guardOf, initT, Ch.on, calleeOf, withArgs, told, xport, xports, tids, tidss, hget, hput, Blk.ice, freeze, V.cells, D.cells, V.isAgg, V.one, V.clo, clos, V.toD, loadD, structAt, eqCells, D.scalarEq, sliceOf, partsD, partsV, bound, isPtr, Blk.width, elems, lenOf, splice, D.over, resOf, resV, resVs, ↓reduceIte, reduceCtorEq, ↓reduceDIte, Nat.reduceLT, Nat.reduceEqDiff, Nat.reduceAdd, Nat.reduceSub, Nat.reduceMul, Nat.reduceLeDiff, Nat.reduceBEq, Nat.reduceBNe, Int.reduceNeg, Int.reduceAdd, Int.reduceSub, Int.reduceToNat, nilTest, shiftH, Blk.ren, V.ren, renL, initV, frameH, putL, frρ, dI, finN_ret, finN_normal, cutK_normal, cutK_ret, cutK_exit, hd]
      exact ⟨j1, ⟨⟨I1.ps, I1.lo, by omega, by omega, I1.less, fun x h1 h2 => by
        by_cases hx : x = j1
        · rw [hx]; exact hlt
        · exact I1.more x (by omega) h2⟩, by omega⟩, by omega, Weak.trimsM 1 (by simp) rfl (by simp [tget, hwi, V.lower, lowerL_ds]) (by simp [Blk.lower])⟩
    case' inr.inl =>
      obtain ⟨j1, rfl⟩ : ∃ j1, j = j1 + 1 := ⟨j - 1, by omega⟩
      have ej : (((j1 + 1 : Nat) : Int) - 1) = (j1 : Int) := by omega
      have ej2 : j1 + 1 - 1 = j1 := by omega
      rw [ej2] at hlt
      simp only [ej] at hij ⊢
      have hwi : IntKind.i64.wrap ((j1 : Int) - 1) = (j1 : Int) - 1 := by rw [wrap_in (by omega)]
      have gi := getD_some (l := ys) (i := j1) (by omega)
      have e2 : i < j1 + 1 → c (ys.getD j1 0) (ys.getD a 0) < 0 := fun _ => Classical.not_not.1 hlt
      simp (maxSteps := 2000000) -implicitDefEqProofs only [zz, zE, evop, ev, ofVal, tget, tput, ok, V.isUndef, intBin, guardOf, initT, Ch.on, calleeOf, withArgs, told, xport, xports, tids, tidss, hget, hput, Blk.ice, freeze, V.cells, D.cells, V.isAgg, V.one, V.clo, clos, V.toD, loadD, structAt, eqCells, D.scalarEq, sliceOf, partsD, partsV, bound, isPtr, Blk.width, elems, lenOf, splice, D.over, resOf, resV, resVs, ↓reduceIte, reduceCtorEq, ↓reduceDIte, Nat.reduceLT, Nat.reduceEqDiff, Nat.reduceAdd, Nat.reduceSub, Nat.reduceMul, Nat.reduceLeDiff, Nat.reduceBEq, Nat.reduceBNe, Int.reduceNeg, Int.reduceAdd, Int.reduceSub, Int.reduceToNat, nilTest, shiftH, Blk.ren, V.ren, renL, initV, frameH, putL, frρ, dI, finN_ret, finN_normal, cutK_normal, cutK_ret, cutK_exit, hij]
      refine wdraw_plan [⟨[], false, [124], [], false⟩, ⟨[], false, [123], [0], false⟩, ⟨[0, 1], true, [], [], false⟩, ⟨[0, 1, 2], true, [], [], false⟩, ⟨[0, 1, 2, 3], false, [128, 129, 130, 131, 132, 133, 134, 135], [], false⟩, ⟨[0, 1, 2, 3], false, [127, 129, 132, 133, 134, 135], [4], false⟩, ⟨[0, 1, 2, 3], false, [127, 128, 132, 133, 134, 135], [4, 5], false⟩, ⟨[0, 1, 2, 3, 5, 6], false, [127, 132, 133, 134, 135], [4], false⟩, ⟨[0, 1, 2, 3, 5, 6, 7], false, [127, 132, 133, 134, 135], [4], false⟩, ⟨[0, 1, 2, 3], false, [127, 128, 129, 130, 131, 133], [4, 5, 6, 7, 8], false⟩, ⟨[0, 1, 2, 3], false, [127, 128, 129, 130, 131, 132], [4, 5, 6, 7, 8, 9], false⟩, ⟨[0, 1, 2, 3, 9, 10], false, [127, 128, 129, 130, 131], [4, 5, 6, 7, 8], false⟩, ⟨[0, 1, 2, 3, 9, 10, 11], false, [127, 128, 129, 130, 131], [4, 5, 6, 7, 8], false⟩, ⟨[0, 1, 2, 3, 4, 5, 6, 7, 8, 9, 10, 11, 12], false, [], [], false⟩, ⟨[0, 1, 2, 3, 4, 5, 6, 7, 8, 9, 10, 11, 12, 13], false, [], [], false⟩, ⟨[0, 1, 2, 3, 4, 5, 6, 7, 8, 9, 10, 11, 12, 13, 14], false, [], [], false⟩, ⟨[0, 1, 2, 3, 4, 5, 6, 7, 8, 9, 10, 11, 12, 13, 14, 15], true, [], [], false⟩] (by decide) ?_
      simp (maxSteps := 2000000) -implicitDefEqProofs only [zz, zE, evop, ev, ofVal, tget, tput, ok, V.isUndef, intBin, guardOf, initT, Ch.on, calleeOf, withArgs, told, xport, xports, tids, tidss, hget, hput, Blk.ice, freeze, V.cells, D.cells, V.isAgg, V.one, V.clo, clos, V.toD, loadD, structAt, eqCells, D.scalarEq, sliceOf, partsD, partsV, bound, isPtr, Blk.width, elems, lenOf, splice, D.over, resOf, resV, resVs, ↓reduceIte, reduceCtorEq, ↓reduceDIte, Nat.reduceLT, Nat.reduceEqDiff, Nat.reduceAdd, Nat.reduceSub, Nat.reduceMul, Nat.reduceLeDiff, Nat.reduceBEq, Nat.reduceBNe, Int.reduceNeg, Int.reduceAdd, Int.reduceSub, Int.reduceToNat, nilTest, shiftH, Blk.ren, V.ren, renL, initV, frameH, putL, frρ, dI, finN_ret, finN_normal, cutK_normal, cutK_ret, cutK_exit, hij, List.getElem?_map, gi, ga, Option.map_some, Int.natCast_nonneg]
      refine ⟨by omega, by omega, ?_⟩
      refine dcall_flat (ds := cap.take f.2 ++ (dI (ys.getD j1 0) :: dI (ys.getD a 0) :: cap.drop f.2)) (xports_two cap f.2 _ _ hC.1) (hC.2 _ _ (hM _ (I1.ps.perm.mem_iff.1 (List.mem_of_getElem? gi))) (hM _ (I1.ps.perm.mem_iff.1 (List.mem_of_getElem? ga)))) rfl ?_
      have hd : decide (c (ys.getD j1 0) (ys.getD a 0) < 0) = true := by simpa using hlt
      simp (maxSteps := 2000000) -implicitDefEqProofs only [zz, zE, evop, ev, ofVal, tget, tput, ok, V.isUndef, intBin, guardOf, initT, Ch.on, calleeOf, withArgs, told, xport, xports, tids, tidss, hget, hput, Blk.ice, freeze, V.cells, D.cells, V.isAgg, V.one, V.clo, clos, V.toD, loadD, structAt, eqCells, D.scalarEq, sliceOf, partsD, partsV, bound, isPtr, Blk.width, elems, lenOf, splice, D.over, resOf, resV, resVs, ↓reduceIte, reduceCtorEq, ↓reduceDIte, Nat.reduceLT, Nat.reduceEqDiff, Nat.reduceAdd, Nat.reduceSub, Nat.reduceMul, Nat.reduceLeDiff, Nat.reduceBEq, Nat.reduceBNe, Int.reduceNeg, Int.reduceAdd, Int.reduceSub, Int.reduceToNat, nilTest, shiftH, Blk.ren, V.ren, renL, initV, frameH, putL, frρ, dI, finN_ret, finN_normal, cutK_normal, cutK_ret, cutK_exit, hd]
      have c2 := Classical.not_not.1 hlt
      have c1 := e1 (by omega)
      have hne : i ≠ j1 := fun e => c1 (e ▸ c2)
      have hge : ¬ ((j1 : Int) < (i : Int)) := by omega
      have gI := getD_some (l := ys) (i := i) (by omega)
      have gJ := getD_some (l := ys) (i := j1) (by omega)
      have g3 : (ys.set i (ys.getD j1 0))[j1]? = some ((ys.set i (ys.getD j1 0)).getD j1 0) := getD_some (by simp; omega)
      have g4 : (ys.set i (ys.getD j1 0)).set j1 (ys.getD i 0) = sw ys i j1 := rfl
      have hwi2 : IntKind.i64.wrap ((i : Int) + 1) = ((i + 1 : Nat) : Int) := by rw [wrap_in (by omega)]; omega
      simp (maxSteps := 2000000) -implicitDefEqProofs only [zz, zE, evop, ev, ofVal, tget, tput, ok, V.isUndef, intBin, guardOf, initT, Ch.on, calleeOf, withArgs, told, xport, xports, tids, tidss, hget, hput, Blk.ice, freeze, V.cells, D.cells, V.isAgg, V.one, V.clo, clos, V.toD, loadD, structAt, eqCells, D.scalarEq, sliceOf, partsD, partsV, bound, isPtr, Blk.width, elems, lenOf, splice, D.over, resOf, resV, resVs, ↓reduceIte, reduceCtorEq, ↓reduceDIte, Nat.reduceLT, Nat.reduceEqDiff, Nat.reduceAdd, Nat.reduceSub, Nat.reduceMul, Nat.reduceLeDiff, Nat.reduceBEq, Nat.reduceBNe, Int.reduceNeg, Int.reduceAdd, Int.reduceSub, Int.reduceToNat, nilTest, shiftH, Blk.ren, V.ren, renL, initV, frameH, putL, frρ, dI, finN_ret, finN_normal, cutK_normal, cutK_ret, cutK_exit, hge]
      refine wdraw_plan [⟨[], false, [146, 147, 148, 149, 150, 151, 152, 153, 154, 155, 156], [], false⟩, ⟨[], false, [145, 147, 148, 149, 150, 151, 152, 153, 154, 155, 156], [0], false⟩, ⟨[], false, [145, 146, 147, 148, 149, 150, 151, 152, 153, 154, 155, 156, 157, 158], [0, 1], true⟩, ⟨[], false, [145, 146, 147, 148, 149, 150, 151, 152, 153, 154, 155, 156, 157, 158], [0, 1, 2], true⟩, ⟨[], false, [145, 146, 147, 148, 150, 153, 154, 155, 156], [0, 1, 2, 3], false⟩, ⟨[], false, [145, 146, 147, 148, 149, 153, 154, 155, 156], [0, 1, 2, 3, 4], false⟩, ⟨[4, 5], false, [145, 146, 147, 148, 153, 154, 155, 156], [0, 1, 2, 3], false⟩, ⟨[4, 5, 6], false, [145, 146, 147, 148, 153, 154, 155, 156], [0, 1, 2, 3], false⟩, ⟨[], false, [145, 146, 147, 148, 149, 150, 151, 152, 154], [0, 1, 2, 3, 4, 5, 6, 7], false⟩, ⟨[], false, [145, 146, 147, 148, 149, 150, 151, 152, 153], [0, 1, 2, 3, 4, 5, 6, 7, 8], false⟩, ⟨[8, 9], false, [145, 146, 147, 148, 149, 150, 151, 152], [0, 1, 2, 3, 4, 5, 6, 7], false⟩, ⟨[8, 9, 10], false, [145, 146, 147, 148, 149, 150, 151, 152], [0, 1, 2, 3, 4, 5, 6, 7], false⟩, ⟨[0, 1, 4, 5, 6, 7, 8, 9, 10, 11], false, [147, 148], [2, 3], false⟩, ⟨[0, 1, 4, 5, 6, 7, 8, 9, 10, 11, 12], true, [147, 148], [], false⟩, ⟨[0, 1, 2, 3, 4, 5, 6, 7, 8, 9, 10, 11, 12, 13], true, [], [], false⟩, ⟨[0, 1, 2, 3, 4, 5, 6, 7, 8, 9, 10, 11, 12, 13, 14], true, [], [], false⟩] (by decide) ?_
      simp (maxSteps := 2000000) -implicitDefEqProofs only [zz, zE, evop, ev, ofVal, tget, tput, ok, V.isUndef, intBin, guardOf, initT, Ch.on, calleeOf, withArgs, told, xport, xports, tids, tidss, hget, hput, Blk.ice, freeze, V.cells, D.cells, V.isAgg, V.one, V.clo, clos, V.toD, loadD, structAt, eqCells, D.scalarEq, sliceOf, partsD, partsV, bound, isPtr, Blk.width, elems, lenOf, splice, D.over, resOf, resV, resVs, ↓reduceIte, reduceCtorEq, ↓reduceDIte, Nat.reduceLT, Nat.reduceEqDiff, Nat.reduceAdd, Nat.reduceSub, Nat.reduceMul, Nat.reduceLeDiff, Nat.reduceBEq, Nat.reduceBNe, Int.reduceNeg, Int.reduceAdd, Int.reduceSub, Int.reduceToNat, nilTest, shiftH, Blk.ren, V.ren, renL, initV, frameH, putL, frρ, dI, finN_ret, finN_normal, cutK_normal, cutK_ret, cutK_exit, List.getElem?_map, gI, gJ, g3, Option.map_some, Int.natCast_nonneg, set_dI, g4]
      have hS := PS.sw (zs := ys) (a := a) (b := b) (i := i) (j := j1) (by omega) ⟨by omega, by omega⟩ ⟨by omega, by omega⟩
      have gd := sw_getD ys (i := i) (j := j1) (by omega) (by omega)
      have gda : (sw ys i j1).getD a 0 = ys.getD a 0 := by rw [gd, if_neg (show ¬ a = j1 by omega), if_neg (show ¬ a = i by omega)]
      refine ⟨by omega, by omega, by omega, by omega, (i + 1, j1, sw ys i j1), ⟨I1.ps.trans hS, by simp only; omega, by simp only; omega, by simp only; omega, fun x h1 h2 => ?_, fun x h1 h2 => ?_⟩, by simp only; omega, Weak.trimsM 1 (by simp) rfl (by simp [tget, hwi, hwi2, V.lower, lowerL_ds]) (by simp [Blk.lower])⟩
      · simp only at h2 ⊢
        rw [gda, gd x, if_neg (show ¬ x = j1 by omega)]
        by_cases hx : x = i
        · rw [if_pos hx]; exact c2
        · rw [if_neg hx]; exact I1.less x h1 (by omega)
      · simp only at h1 ⊢
        rw [gda, gd x]
        by_cases hx : x = j1
        · rw [if_pos hx]; exact c1
        · rw [if_neg hx, if_neg (by omega)]; exact I1.more x (by omega) h2
    case' inr.inr =>
      have e2 : i < j → c (ys.getD (j - 1) 0) (ys.getD a 0) < 0 := fun h => absurd h (by omega)
      simp (maxSteps := 2000000) -implicitDefEqProofs only [zz, zE, evop, ev, ofVal, tget, tput, ok, V.isUndef, intBin, guardOf, initT, Ch.on, calleeOf, withArgs, told, xport, xports, tids, tidss, hget, hput, Blk.ice, freeze, V.cells, D.cells, V.isAgg, V.one, V.clo, clos, V.toD, loadD, structAt, eqCells, D.scalarEq, sliceOf, partsD, partsV, bound, isPtr, Blk.width, elems, lenOf, splice, D.over, resOf, resV, resVs, ↓reduceIte, reduceCtorEq, ↓reduceDIte, Nat.reduceLT, Nat.reduceEqDiff, Nat.reduceAdd, Nat.reduceSub, Nat.reduceMul, Nat.reduceLeDiff, Nat.reduceBEq, Nat.reduceBNe, Int.reduceNeg, Int.reduceAdd, Int.reduceSub, Int.reduceToNat, nilTest, shiftH, Blk.ren, V.ren, renL, initV, frameH, putL, frρ, dI, finN_ret, finN_normal, cutK_normal, cutK_ret, cutK_exit, hij]
      refine wdraw_plan [⟨[], false, [124], [], false⟩, ⟨[], false, [123], [0], false⟩, ⟨[0, 1], true, [], [], false⟩, ⟨[0, 1, 2], true, [], [], false⟩, ⟨[0, 1, 2, 3], false, [128, 129, 130, 131, 132, 133, 134, 135], [], false⟩, ⟨[0, 1, 2, 3], false, [127, 129, 132, 133, 134, 135], [4], false⟩, ⟨[0, 1, 2, 3], false, [127, 128, 132, 133, 134, 135], [4, 5], false⟩, ⟨[0, 1, 2, 3, 5, 6], false, [127, 132, 133, 134, 135], [4], false⟩, ⟨[0, 1, 2, 3, 5, 6, 7], false, [127, 132, 133, 134, 135], [4], false⟩, ⟨[0, 1, 2, 3], false, [127, 128, 129, 130, 131, 133], [4, 5, 6, 7, 8], false⟩, ⟨[0, 1, 2, 3], false, [127, 128, 129, 130, 131, 132], [4, 5, 6, 7, 8, 9], false⟩, ⟨[0, 1, 2, 3, 9, 10], false, [127, 128, 129, 130, 131], [4, 5, 6, 7, 8], false⟩, ⟨[0, 1, 2, 3, 9, 10, 11], false, [127, 128, 129, 130, 131], [4, 5, 6, 7, 8], false⟩, ⟨[0, 1, 2, 3, 4, 5, 6, 7, 8, 9, 10, 11, 12], false, [], [], false⟩, ⟨[0, 1, 2, 3, 4, 5, 6, 7, 8, 9, 10, 11, 12, 13], false, [], [], false⟩, ⟨[0, 1, 2, 3, 4, 5, 6, 7, 8, 9, 10, 11, 12, 13, 14], false, [], [], false⟩, ⟨[0, 1, 2, 3, 4, 5, 6, 7, 8, 9, 10, 11, 12, 13, 14, 15], true, [], [], false⟩] (by decide) ?_
      simp (maxSteps := 2000000) -implicitDefEqProofs only [zz, zE, evop, ev, ofVal, tget, tput, ok, V.isUndef, intBin, guardOf, initT, Ch.on, calleeOf, withArgs, told, xport, xports, tids, tidss, hget, hput, Blk.ice, freeze, V.cells, D.cells, V.isAgg, V.one, V.clo, clos, V.toD, loadD, structAt, eqCells, D.scalarEq, sliceOf, partsD, partsV, bound, isPtr, Blk.width, elems, lenOf, splice, D.over, resOf, resV, resVs, ↓reduceIte, reduceCtorEq, ↓reduceDIte, Nat.reduceLT, Nat.reduceEqDiff, Nat.reduceAdd, Nat.reduceSub, Nat.reduceMul, Nat.reduceLeDiff, Nat.reduceBEq, Nat.reduceBNe, Int.reduceNeg, Int.reduceAdd, Int.reduceSub, Int.reduceToNat, nilTest, shiftH, Blk.ren, V.ren, renL, initV, frameH, putL, frρ, dI, finN_ret, finN_normal, cutK_normal, cutK_ret, cutK_exit, hij]
      have ei : i = j := by omega
      have hge : ((j : Int) - 1 < (i : Int)) := by omega
      simp (maxSteps := 2000000) -implicitDefEqProofs only [zz, zE, evop, ev, ofVal, tget, tput, ok, V.isUndef, intBin, guardOf, initT, Ch.on, calleeOf, withArgs, told, xport, xports, tids, tidss, hget, hput, Blk.ice, freeze, V.cells, D.cells, V.isAgg, V.one, V.clo, clos, V.toD, loadD, structAt, eqCells, D.scalarEq, sliceOf, partsD, partsV, bound, isPtr, Blk.width, elems, lenOf, splice, D.over, resOf, resV, resVs, ↓reduceIte, reduceCtorEq, ↓reduceDIte, Nat.reduceLT, Nat.reduceEqDiff, Nat.reduceAdd, Nat.reduceSub, Nat.reduceMul, Nat.reduceLeDiff, Nat.reduceBEq, Nat.reduceBNe, Int.reduceNeg, Int.reduceAdd, Int.reduceSub, Int.reduceToNat, nilTest, shiftH, Blk.ren, V.ren, renL, initV, frameH, putL, frρ, dI, finN_ret, finN_normal, cutK_normal, cutK_ret, cutK_exit, hge]
      subst ei
      exact Snd.weak (Weak.trimsM 1 (by simp) rfl (by simp [tget, V.lower, lowerL_ds]) (by simp [Blk.lower])) (tail i ys I1)
theorem n_partition (a b pv : Nat) (hab : a < b) (hb : b ≤ zs.length) (hp : a ≤ pv ∧ pv < b) :
    NSpec Try.prog 91 [.own 0 0 zs.length, .d (.int .i64 a), .d (.int .i64 b), .d (.int .i64 pv), .func f (cap.map V.d)] [.dat false 1 (zs.map dI)]
      (OutB (fun mid zs' => PS a b zs zs' ∧ a ≤ mid ∧ mid < b ∧ (∀ x, a ≤ x → x < mid → c (zs'.getD x 0) (zs'.getD mid 0) < 0) ∧ (∀ x, mid < x → x < b → ¬ c (zs'.getD x 0) (zs'.getD mid 0) < 0))) := by
  have tail : ∀ i j ys, Part c zs a b i j ys → _ := fun i j ys I => pt_main hC zs hM hl hb hab (i := i) (j := j) (ys := ys) I
  simp only [ptC, Try.f91, Option.getD_some, tlN] at tail
  refine NSpec.of_snd envOf_ok hmix Try.func91 rfl (fun args w => Try.call91 args w) (by simp [Try.f91]) ?_
  simp only [Try.f91]
  refine Snd.upto envOf_ok hmix 9 _ ?_
  simp only [hdN, tlN]
  simp (maxSteps := 2000000) -implicitDefEqProofs only [zz, zE, evop, ev, ofVal, tget, tput, ok, V.isUndef, intBin, guardOf, initT, Ch.on, calleeOf, withArgs, told, xport, xports, tids, tidss, hget, hput, Blk.ice, freeze, V.cells, D.cells, V.isAgg, V.one, V.clo, clos, V.toD, loadD, structAt, eqCells, D.scalarEq, sliceOf, partsD, partsV, bound, isPtr, Blk.width, elems, lenOf, splice, D.over, resOf, resV, resVs, ↓reduceIte, reduceCtorEq, ↓reduceDIte, Nat.reduceLT, Nat.reduceEqDiff, Nat.reduceAdd, Nat.reduceSub, Nat.reduceMul, Nat.reduceLeDiff, Nat.reduceBEq, Nat.reduceBNe, Int.reduceNeg, Int.reduceAdd, Int.reduceSub, Int.reduceToNat, nilTest, shiftH, Blk.ren, V.ren, renL, initV, frameH, putL, frρ, dI, finN_ret, finN_normal, cutK_normal, cutK_ret, cutK_exit]
  refine wdraw_plan [⟨[], false, [15, 16, 17, 18, 19, 20, 21, 22, 23, 24, 25], [], false⟩, ⟨[], false, [14, 16, 17, 18, 19, 20, 21, 22, 23, 24, 25], [0], false⟩, ⟨[], false, [14, 15, 16, 17, 18, 19, 20, 21, 22, 23, 24, 25, 26, 27], [0, 1], true⟩, ⟨[], false, [14, 15, 16, 17, 18, 19, 20, 21, 22, 23, 24, 25, 26, 27], [0, 1, 2], true⟩, ⟨[], false, [14, 15, 16, 17, 19, 22, 23, 24, 25], [0, 1, 2, 3], false⟩, ⟨[], false, [14, 15, 16, 17, 18, 22, 23, 24, 25], [0, 1, 2, 3, 4], false⟩, ⟨[4, 5], false, [14, 15, 16, 17, 22, 23, 24, 25], [0, 1, 2, 3], false⟩, ⟨[4, 5, 6], false, [14, 15, 16, 17, 22, 23, 24, 25], [0, 1, 2, 3], false⟩, ⟨[], false, [14, 15, 16, 17, 18, 19, 20, 21, 23], [0, 1, 2, 3, 4, 5, 6, 7], false⟩, ⟨[], false, [14, 15, 16, 17, 18, 19, 20, 21, 22], [0, 1, 2, 3, 4, 5, 6, 7, 8], false⟩, ⟨[8, 9], false, [14, 15, 16, 17, 18, 19, 20, 21], [0, 1, 2, 3, 4, 5, 6, 7], false⟩, ⟨[8, 9, 10], false, [14, 15, 16, 17, 18, 19, 20, 21], [0, 1, 2, 3, 4, 5, 6, 7], false⟩, ⟨[0, 1, 4, 5, 6, 7, 8, 9, 10, 11], false, [16, 17], [2, 3], false⟩, ⟨[0, 1, 4, 5, 6, 7, 8, 9, 10, 11, 12], true, [16, 17], [], false⟩, ⟨[0, 1, 2, 3, 4, 5, 6, 7, 8, 9, 10, 11, 12, 13], true, [], [], false⟩, ⟨[0, 1, 2, 3, 4, 5, 6, 7, 8, 9, 10, 11, 12, 13, 14], true, [], [], false⟩] (by decide) ?_
  have g1 := getD_some (l := zs) (i := a) (by omega)
  have g2 := getD_some (l := zs) (i := pv) (by omega)
  have g3 : (zs.set a (zs.getD pv 0))[pv]? = some ((zs.set a (zs.getD pv 0)).getD pv 0) := getD_some (by simp; omega)
  have g4 : (zs.set a (zs.getD pv 0)).set pv (zs.getD a 0) = sw zs a pv := rfl
  simp (maxSteps := 2000000) -implicitDefEqProofs only [zz, zE, evop, ev, ofVal, tget, tput, ok, V.isUndef, intBin, guardOf, initT, Ch.on, calleeOf, withArgs, told, xport, xports, tids, tidss, hget, hput, Blk.ice, freeze, V.cells, D.cells, V.isAgg, V.one, V.clo, clos, V.toD, loadD, structAt, eqCells, D.scalarEq, sliceOf, partsD, partsV, bound, isPtr, Blk.width, elems, lenOf, splice, D.over, resOf, resV, resVs, ↓reduceIte, reduceCtorEq, ↓reduceDIte, Nat.reduceLT, Nat.reduceEqDiff, Nat.reduceAdd, Nat.reduceSub, Nat.reduceMul, Nat.reduceLeDiff, Nat.reduceBEq, Nat.reduceBNe, Int.reduceNeg, Int.reduceAdd, Int.reduceSub, Int.reduceToNat, nilTest, shiftH, Blk.ren, V.ren, renL, initV, frameH, putL, frρ, dI, finN_ret, finN_normal, cutK_normal, cutK_ret, cutK_exit, List.getElem?_map, g1, g2, g3, Option.map_some, Int.natCast_nonneg, set_dI, g4]
  refine ⟨by omega, by omega, by omega, by omega, ?_⟩
  have w1 : IntKind.i64.wrap ((a : Int) + 1) = ((a + 1 : Nat) : Int) := by rw [wrap_in (by omega)]; omega
  have w2 : IntKind.i64.wrap ((b : Int) - 1) = (b : Int) - 1 := by rw [wrap_in (by omega)]
  have hS : PS a b zs (sw zs a pv) := PS.sw hb ⟨by omega, by omega⟩ ⟨by omega, by omega⟩
  have I0 : Part c zs a b (a + 1) b (sw zs a pv) := ⟨hS, by omega, by omega, by omega, fun x h1 h2 => by omega, fun x h1 h2 => by omega⟩
  obtain ⟨ys, hys⟩ : ∃ ys, ys = sw zs a pv := ⟨_, rfl⟩
  rw [← hys] at I0
  rw [← hys, w1, w2]
  obtain ⟨j, hj⟩ : ∃ j, j = b := ⟨_, rfl⟩
  have I0 : Part c zs a b (a + 1) j ys := by rw [hj]; exact I0
  have e13 : ((b : Int) - 1) = ((j : Int) - 1) := by omega
  rw [e13]
  refine wloop_ind (σ := Nat) (fun i => j - i) (fun i => [(12, .d (.int .i64 (i : Int))), (13, .d (.int .i64 ((j : Int) - 1))), (0, .own 0 0 zs.length), (1, .d (.int .i64 a)), (4, .func f (cap.map V.d))]) (fun _ => [.dat false 1 (ys.map dI)]) (fun i => Part c zs a b i j ys) (a + 1) I0 (Weak.trimsM 1 (by simp) rfl (by simp [tget, V.lower, lowerL_ds]) (by simp [Blk.lower])) ?_
  clear I0
  intro i I1
  have hyl := I1.ps.len
  have k1 := I1.lo
  have k2 := I1.le
  have k3 := I1.hi
  have ga := getD_some (l := ys) (i := a) (by omega)
  rcases (show ((i : Int) ≤ (j : Int) - 1 ∧ c (ys.getD i 0) (ys.getD a 0) < 0) ∨ ((i : Int) ≤ (j : Int) - 1 ∧ ¬ c (ys.getD i 0) (ys.getD a 0) < 0) ∨ ¬ (i : Int) ≤ (j : Int) - 1 by
    by_cases h1 : (i : Int) ≤ (j : Int) - 1
    · by_cases h2 : c (ys.getD i 0) (ys.getD a 0) < 0
      · exact .inl ⟨h1, h2⟩
      · exact .inr (.inl ⟨h1, h2⟩)
    · exact .inr (.inr h1)) with ⟨hij, hlt⟩ | ⟨hij, hlt⟩ | hij
  case' inl =>
    have hwi : IntKind.i64.wrap ((i : Int) + 1) = ((i + 1 : Nat) : Int) := by rw [wrap_in (by omega)]; omega
    have gi := getD_some (l := ys) (i := i) (by omega)
    simp (maxSteps := 2000000) -implicitDefEqProofs only [zz, zE, evop, ev, ofVal, tget, tput, ok, V.isUndef, intBin, guardOf, initT, Ch.on, calleeOf, withArgs, told, xport, xports, tids, tidss, hget, hput, Blk.ice, freeze, V.cells, D.cells, V.isAgg, V.one, V.clo, clos, V.toD, loadD, structAt, eqCells, D.scalarEq, sliceOf, partsD, partsV, bound, isPtr, Blk.width, elems, lenOf, splice, D.over, resOf, resV, resVs, ↓reduceIte, reduceCtorEq, ↓reduceDIte, Nat.reduceLT, Nat.reduceEqDiff, Nat.reduceAdd, Nat.reduceSub, Nat.reduceMul, Nat.reduceLeDiff, Nat.reduceBEq, Nat.reduceBNe, Int.reduceNeg, Int.reduceAdd, Int.reduceSub, Int.reduceToNat, nilTest, shiftH, Blk.ren, V.ren, renL, initV, frameH, putL, frρ, dI, finN_ret, finN_normal, cutK_normal, cutK_ret, cutK_exit, hij]
    refine wdraw_plan [⟨[], false, [33], [], false⟩, ⟨[], false, [32], [0], false⟩, ⟨[0, 1], true, [], [], false⟩, ⟨[0, 1, 2], true, [], [], false⟩, ⟨[0, 1, 2, 3], false, [37, 38, 39, 40, 41, 42, 43, 44], [], false⟩, ⟨[0, 1, 2, 3], false, [36, 38, 41, 42, 43, 44], [4], false⟩, ⟨[0, 1, 2, 3], false, [36, 37, 41, 42, 43, 44], [4, 5], false⟩, ⟨[0, 1, 2, 3, 5, 6], false, [36, 41, 42, 43, 44], [4], false⟩, ⟨[0, 1, 2, 3, 5, 6, 7], false, [36, 41, 42, 43, 44], [4], false⟩, ⟨[0, 1, 2, 3], false, [36, 37, 38, 39, 40, 42], [4, 5, 6, 7, 8], false⟩, ⟨[0, 1, 2, 3], false, [36, 37, 38, 39, 40, 41], [4, 5, 6, 7, 8, 9], false⟩, ⟨[0, 1, 2, 3, 9, 10], false, [36, 37, 38, 39, 40], [4, 5, 6, 7, 8], false⟩, ⟨[0, 1, 2, 3, 9, 10, 11], false, [36, 37, 38, 39, 40], [4, 5, 6, 7, 8], false⟩, ⟨[0, 1, 2, 3, 4, 5, 6, 7, 8, 9, 10, 11, 12], false, [], [], false⟩, ⟨[0, 1, 2, 3, 4, 5, 6, 7, 8, 9, 10, 11, 12, 13], false, [], [], false⟩, ⟨[0, 1, 2, 3, 4, 5, 6, 7, 8, 9, 10, 11, 12, 13, 14], true, [], [], false⟩] (by decide) ?_
    simp (maxSteps := 2000000) -implicitDefEqProofs only [zz, zE, evop, ev, ofVal, tget, tput, ok, V.isUndef, intBin, guardOf, initT, Ch.on, calleeOf, withArgs, told, xport, xports, tids, tidss, hget, hput, Blk.ice, freeze, V.cells, D.cells, V.isAgg, V.one, V.clo, clos, V.toD, loadD, structAt, eqCells, D.scalarEq, sliceOf, partsD, partsV, bound, isPtr, Blk.width, elems, lenOf, splice, D.over, resOf, resV, resVs, ↓reduceIte, reduceCtorEq, ↓reduceDIte, Nat.reduceLT, Nat.reduceEqDiff, Nat.reduceAdd, Nat.reduceSub, Nat.reduceMul, Nat.reduceLeDiff, Nat.reduceBEq, Nat.reduceBNe, Int.reduceNeg, Int.reduceAdd, Int.reduceSub, Int.reduceToNat, nilTest, shiftH, Blk.ren, V.ren, renL, initV, frameH, putL, frρ, dI, finN_ret, finN_normal, cutK_normal, cutK_ret, cutK_exit, hij, List.getElem?_map, gi, ga, Option.map_some, Int.natCast_nonneg]
    refine ⟨by omega, by omega, ?_⟩
    refine dcall_flat (ds := cap.take f.2 ++ (dI (ys.getD i 0) :: dI (ys.getD a 0) :: cap.drop f.2)) (xports_two cap f.2 _ _ hC.1) (hC.2 _ _ (hM _ (I1.ps.perm.mem_iff.1 (List.mem_of_getElem? gi))) (hM _ (I1.ps.perm.mem_iff.1 (List.mem_of_getElem? ga)))) rfl ?_
    simp (maxSteps := 2000000) -implicitDefEqProofs only [zz, zE, evop, ev, ofVal, tget, tput, ok, V.isUndef, intBin, guardOf, initT, Ch.on, calleeOf, withArgs, told, xport, xports, tids, tidss, hget, hput, Blk.ice, freeze, V.cells, D.cells, V.isAgg, V.one, V.clo, clos, V.toD, loadD, structAt, eqCells, D.scalarEq, sliceOf, partsD, partsV, bound, isPtr, Blk.width, elems, lenOf, splice, D.over, resOf, resV, resVs, ↓reduceIte, reduceCtorEq, ↓reduceDIte, Nat.reduceLT, Nat.reduceEqDiff, Nat.reduceAdd, Nat.reduceSub, Nat.reduceMul, Nat.reduceLeDiff, Nat.reduceBEq, Nat.reduceBNe, Int.reduceNeg, Int.reduceAdd, Int.reduceSub, Int.reduceToNat, nilTest, shiftH, Blk.ren, V.ren, renL, initV, frameH, putL, frρ, dI, finN_ret, finN_normal, cutK_normal, cutK_ret, cutK_exit, hlt]
    exact ⟨i + 1, ⟨I1.ps, by omega, by omega, I1.hi, fun x h1 h2 => by
      by_cases hx : x = i
      · rw [hx]; exact hlt
      · exact I1.less x h1 (by omega), I1.more⟩, by omega, Weak.trimsM 1 (by simp) rfl (by simp [tget, hwi, V.lower, lowerL_ds]) (by simp [Blk.lower])⟩
  case' inr.inl =>
    have hwi : IntKind.i64.wrap ((i : Int) + 1) = ((i + 1 : Nat) : Int) := by rw [wrap_in (by omega)]; omega
    have gi := getD_some (l := ys) (i := i) (by omega)
    have e1 : i < j → ¬ c (ys.getD i 0) (ys.getD a 0) < 0 := fun _ => hlt
    simp (maxSteps := 2000000) -implicitDefEqProofs only [zz, zE, evop, ev, ofVal, tget, tput, ok, V.isUndef, intBin, guardOf, initT, Ch.on, calleeOf, withArgs, told, xport, xports, tids, tidss, hget, hput, Blk.ice, freeze, V.cells, D.cells, V.isAgg, V.one, V.clo, clos, V.toD, loadD, structAt, eqCells, D.scalarEq, sliceOf, partsD, partsV, bound, isPtr, Blk.width, elems, lenOf, splice, D.over, resOf, resV, resVs, ↓reduceIte, reduceCtorEq, ↓reduceDIte, Nat.reduceLT, Nat.reduceEqDiff, Nat.reduceAdd, Nat.reduceSub, Nat.reduceMul, Nat.reduceLeDiff, Nat.reduceBEq, Nat.reduceBNe, Int.reduceNeg, Int.reduceAdd, Int.reduceSub, Int.reduceToNat, nilTest, shiftH, Blk.ren, V.ren, renL, initV, frameH, putL, frρ, dI, finN_ret, finN_normal, cutK_normal, cutK_ret, cutK_exit, hij]
    refine wdraw_plan [⟨[], false, [33], [], false⟩, ⟨[], false, [32], [0], false⟩, ⟨[0, 1], true, [], [], false⟩, ⟨[0, 1, 2], true, [], [], false⟩, ⟨[0, 1, 2, 3], false, [37, 38, 39, 40, 41, 42, 43, 44], [], false⟩, ⟨[0, 1, 2, 3], false, [36, 38, 41, 42, 43, 44], [4], false⟩, ⟨[0, 1, 2, 3], false, [36, 37, 41, 42, 43, 44], [4, 5], false⟩, ⟨[0, 1, 2, 3, 5, 6], false, [36, 41, 42, 43, 44], [4], false⟩, ⟨[0, 1, 2, 3, 5, 6, 7], false, [36, 41, 42, 43, 44], [4], false⟩, ⟨[0, 1, 2, 3], false, [36, 37, 38, 39, 40, 42], [4, 5, 6, 7, 8], false⟩, ⟨[0, 1, 2, 3], false, [36, 37, 38, 39, 40, 41], [4, 5, 6, 7, 8, 9], false⟩, ⟨[0, 1, 2, 3, 9, 10], false, [36, 37, 38, 39, 40], [4, 5, 6, 7, 8], false⟩, ⟨[0, 1, 2, 3, 9, 10, 11], false, [36, 37, 38, 39, 40], [4, 5, 6, 7, 8], false⟩, ⟨[0, 1, 2, 3, 4, 5, 6, 7, 8, 9, 10, 11, 12], false, [], [], false⟩, ⟨[0, 1, 2, 3, 4, 5, 6, 7, 8, 9, 10, 11, 12, 13], false, [], [], false⟩, ⟨[0, 1, 2, 3, 4, 5, 6, 7, 8, 9, 10, 11, 12, 13, 14], true, [], [], false⟩] (by decide) ?_
    simp (maxSteps := 2000000) -implicitDefEqProofs only [zz, zE, evop, ev, ofVal, tget, tput, ok, V.isUndef, intBin, guardOf, initT, Ch.on, calleeOf, withArgs, told, xport, xports, tids, tidss, hget, hput, Blk.ice, freeze, V.cells, D.cells, V.isAgg, V.one, V.clo, clos, V.toD, loadD, structAt, eqCells, D.scalarEq, sliceOf, partsD, partsV, bound, isPtr, Blk.width, elems, lenOf, splice, D.over, resOf, resV, resVs, ↓reduceIte, reduceCtorEq, ↓reduceDIte, Nat.reduceLT, Nat.reduceEqDiff, Nat.reduceAdd, Nat.reduceSub, Nat.reduceMul, Nat.reduceLeDiff, Nat.reduceBEq, Nat.reduceBNe, Int.reduceNeg, Int.reduceAdd, Int.reduceSub, Int.reduceToNat, nilTest, shiftH, Blk.ren, V.ren, renL, initV, frameH, putL, frρ, dI, finN_ret, finN_normal, cutK_normal, cutK_ret, cutK_exit, hij, List.getElem?_map, gi, ga, Option.map_some, Int.natCast_nonneg]
    refine ⟨by omega, by omega, ?_⟩
    refine dcall_flat (ds := cap.take f.2 ++ (dI (ys.getD i 0) :: dI (ys.getD a 0) :: cap.drop f.2)) (xports_two cap f.2 _ _ hC.1) (hC.2 _ _ (hM _ (I1.ps.perm.mem_iff.1 (List.mem_of_getElem? gi))) (hM _ (I1.ps.perm.mem_iff.1 (List.mem_of_getElem? ga)))) rfl ?_
    simp (maxSteps := 2000000) -implicitDefEqProofs only [zz, zE, evop, ev, ofVal, tget, tput, ok, V.isUndef, intBin, guardOf, initT, Ch.on, calleeOf, withArgs, told, xport, xports, tids, tidss, hget, hput, Blk.ice, freeze, V.cells, D.cells, V.isAgg, V.one, V.clo, clos, V.toD, loadD, structAt, eqCells, D.scalarEq, sliceOf, partsD, partsV, bound, isPtr, Blk.width, elems, lenOf, splice, D.over, resOf, resV, resVs, ↓reduceIte, reduceCtorEq, ↓reduceDIte, Nat.reduceLT, Nat.reduceEqDiff, Nat.reduceAdd, Nat.reduceSub, Nat.reduceMul, Nat.reduceLeDiff, Nat.reduceBEq, Nat.reduceBNe, Int.reduceNeg, Int.reduceAdd, Int.reduceSub, Int.reduceToNat, nilTest, shiftH, Blk.ren, V.ren, renL, initV, frameH, putL, frρ, dI, finN_ret, finN_normal, cutK_normal, cutK_ret, cutK_exit, hlt]
  case' inr.inr =>
    have e1 : i < j → ¬ c (ys.getD i 0) (ys.getD a 0) < 0 := fun h => absurd h (by omega)
    simp (maxSteps := 2000000) -implicitDefEqProofs only [zz, zE, evop, ev, ofVal, tget, tput, ok, V.isUndef, intBin, guardOf, initT, Ch.on, calleeOf, withArgs, told, xport, xports, tids, tidss, hget, hput, Blk.ice, freeze, V.cells, D.cells, V.isAgg, V.one, V.clo, clos, V.toD, loadD, structAt, eqCells, D.scalarEq, sliceOf, partsD, partsV, bound, isPtr, Blk.width, elems, lenOf, splice, D.over, resOf, resV, resVs, ↓reduceIte, reduceCtorEq, ↓reduceDIte, Nat.reduceLT, Nat.reduceEqDiff, Nat.reduceAdd, Nat.reduceSub, Nat.reduceMul, Nat.reduceLeDiff, Nat.reduceBEq, Nat.reduceBNe, Int.reduceNeg, Int.reduceAdd, Int.reduceSub, Int.reduceToNat, nilTest, shiftH, Blk.ren, V.ren, renL, initV, frameH, putL, frρ, dI, finN_ret, finN_normal, cutK_normal, cutK_ret, cutK_exit, hij]
    refine wdraw_plan [⟨[], false, [33], [], false⟩, ⟨[], false, [32], [0], false⟩, ⟨[0, 1], true, [], [], false⟩, ⟨[0, 1, 2], true, [], [], false⟩, ⟨[0, 1, 2, 3], false, [37, 38, 39, 40, 41, 42, 43, 44], [], false⟩, ⟨[0, 1, 2, 3], false, [36, 38, 41, 42, 43, 44], [4], false⟩, ⟨[0, 1, 2, 3], false, [36, 37, 41, 42, 43, 44], [4, 5], false⟩, ⟨[0, 1, 2, 3, 5, 6], false, [36, 41, 42, 43, 44], [4], false⟩, ⟨[0, 1, 2, 3, 5, 6, 7], false, [36, 41, 42, 43, 44], [4], false⟩, ⟨[0, 1, 2, 3], false, [36, 37, 38, 39, 40, 42], [4, 5, 6, 7, 8], false⟩, ⟨[0, 1, 2, 3], false, [36, 37, 38, 39, 40, 41], [4, 5, 6, 7, 8, 9], false⟩, ⟨[0, 1, 2, 3, 9, 10], false, [36, 37, 38, 39, 40], [4, 5, 6, 7, 8], false⟩, ⟨[0, 1, 2, 3, 9, 10, 11], false, [36, 37, 38, 39, 40], [4, 5, 6, 7, 8], false⟩, ⟨[0, 1, 2, 3, 4, 5, 6, 7, 8, 9, 10, 11, 12], false, [], [], false⟩, ⟨[0, 1, 2, 3, 4, 5, 6, 7, 8, 9, 10, 11, 12, 13], false, [], [], false⟩, ⟨[0, 1, 2, 3, 4, 5, 6, 7, 8, 9, 10, 11, 12, 13, 14], true, [], [], false⟩] (by decide) ?_
    simp (maxSteps := 2000000) -implicitDefEqProofs only [zz, zE, evop, ev, ofVal, tget, tput, ok, V.isUndef, intBin, guardOf, initT, Ch.on, calleeOf, withArgs, told, xport, xports, tids, tidss, hget, hput, Blk.ice, freeze, V.cells, D.cells, V.isAgg, V.one, V.clo, clos, V.toD, loadD, structAt, eqCells, D.scalarEq, sliceOf, partsD, partsV, bound, isPtr, Blk.width, elems, lenOf, splice, D.over, resOf, resV, resVs, ↓reduceIte, reduceCtorEq, ↓reduceDIte, Nat.reduceLT, Nat.reduceEqDiff, Nat.reduceAdd, Nat.reduceSub, Nat.reduceMul, Nat.reduceLeDiff, Nat.reduceBEq, Nat.reduceBNe, Int.reduceNeg, Int.reduceAdd, Int.reduceSub, Int.reduceToNat, nilTest, shiftH, Blk.ren, V.ren, renL, initV, frameH, putL, frρ, dI, finN_ret, finN_normal, cutK_normal, cutK_ret, cutK_exit, hij]
  all_goals
    have I0 := I1
    clear hyl k1 k2 k3 I1
    obtain ⟨jo, hjo⟩ : ∃ jo, jo = j := ⟨_, rfl⟩
    rw [← hjo] at e1
    refine wloop_ind (σ := Nat) (fun j => j) (fun j => [(13, .d (.int .i64 ((j : Int) - 1))), (12, .d (.int .i64 (i : Int))), (0, .own 0 0 zs.length), (1, .d (.int .i64 a)), (4, .func f (cap.map V.d))]) (fun _ => [.dat false 1 (ys.map dI)]) (fun j => Part c zs a b i j ys ∧ j ≤ jo) j ⟨I0, by omega⟩ (Weak.trimsM 1 (by simp) rfl (by simp [tget, V.lower, lowerL_ds]) (by simp [Blk.lower])) ?_
    clear I0
    rintro j ⟨I1, hjj⟩
    have hyl := I1.ps.len
    have k1 := I1.lo
    have k2 := I1.le
    have k3 := I1.hi
    have ga := getD_some (l := ys) (i := a) (by omega)
    rcases (show ((i : Int) ≤ (j : Int) - 1 ∧ ¬ c (ys.getD (j - 1) 0) (ys.getD a 0) < 0) ∨ ((i : Int) ≤ (j : Int) - 1 ∧ ¬ ¬ c (ys.getD (j - 1) 0) (ys.getD a 0) < 0) ∨ ¬ (i : Int) ≤ (j : Int) - 1 by
      by_cases h1 : (i : Int) ≤ (j : Int) - 1
      · by_cases h2 : ¬ c (ys.getD (j - 1) 0) (ys.getD a 0) < 0
        · exact .inl ⟨h1, h2⟩
        · exact .inr (.inl ⟨h1, h2⟩)
      · exact .inr (.inr h1)) with ⟨hij, hlt⟩ | ⟨hij, hlt⟩ | hij
    case' inl =>
      obtain ⟨j1, rfl⟩ : ∃ j1, j = j1 + 1 := ⟨j - 1, by omega⟩
      have ej : (((j1 + 1 : Nat) : Int) - 1) = (j1 : Int) := by omega
      have ej2 : j1 + 1 - 1 = j1 := by omega
      rw [ej2] at hlt
      simp only [ej] at hij ⊢
      have hwi : IntKind.i64.wrap ((j1 : Int) - 1) = (j1 : Int) - 1 := by rw [wrap_in (by omega)]
      have gi := getD_some (l := ys) (i := j1) (by omega)
      simp (maxSteps := 2000000) -implicitDefEqProofs only [zz, zE, evop, ev, ofVal, tget, tput, ok, V.isUndef, intBin, guardOf, initT, Ch.on, calleeOf, withArgs, told, xport, xports, tids, tidss, hget, hput, Blk.ice, freeze, V.cells, D.cells, V.isAgg, V.one, V.clo, clos, V.toD, loadD, structAt, eqCells, D.scalarEq, sliceOf, partsD, partsV, bound, isPtr, Blk.width, elems, lenOf, splice, D.over, resOf, resV, resVs, ↓reduceIte, reduceCtorEq, ↓reduceDIte, Nat.reduceLT, Nat.reduceEqDiff, Nat.reduceAdd, Nat.reduceSub, Nat.reduceMul, Nat.reduceLeDiff, Nat.reduceBEq, Nat.reduceBNe, Int.reduceNeg, Int.reduceAdd, Int.reduceSub, Int.reduceToNat, nilTest, shiftH, Blk.ren, V.ren, renL, initV, frameH, putL, frρ, dI, finN_ret, finN_normal, cutK_normal, cutK_ret, cutK_exit, hij]
      refine wdraw_plan [⟨[], false, [51], [], false⟩, ⟨[], false, [50], [0], false⟩, ⟨[0, 1], true, [], [], false⟩, ⟨[0, 1, 2], true, [], [], false⟩, ⟨[0, 1, 2, 3], false, [55, 56, 57, 58, 59, 60, 61, 62], [], false⟩, ⟨[0, 1, 2, 3], false, [54, 56, 59, 60, 61, 62], [4], false⟩, ⟨[0, 1, 2, 3], false, [54, 55, 59, 60, 61, 62], [4, 5], false⟩, ⟨[0, 1, 2, 3, 5, 6], false, [54, 59, 60, 61, 62], [4], false⟩, ⟨[0, 1, 2, 3, 5, 6, 7], false, [54, 59, 60, 61, 62], [4], false⟩, ⟨[0, 1, 2, 3], false, [54, 55, 56, 57, 58, 60], [4, 5, 6, 7, 8], false⟩, ⟨[0, 1, 2, 3], false, [54, 55, 56, 57, 58, 59], [4, 5, 6, 7, 8, 9], false⟩, ⟨[0, 1, 2, 3, 9, 10], false, [54, 55, 56, 57, 58], [4, 5, 6, 7, 8], false⟩, ⟨[0, 1, 2, 3, 9, 10, 11], false, [54, 55, 56, 57, 58], [4, 5, 6, 7, 8], false⟩, ⟨[0, 1, 2, 3, 4, 5, 6, 7, 8, 9, 10, 11, 12], false, [], [], false⟩, ⟨[0, 1, 2, 3, 4, 5, 6, 7, 8, 9, 10, 11, 12, 13], false, [], [], false⟩, ⟨[0, 1, 2, 3, 4, 5, 6, 7, 8, 9, 10, 11, 12, 13, 14], false, [], [], false⟩, ⟨[0, 1, 2, 3, 4, 5, 6, 7, 8, 9, 10, 11, 12, 13, 14, 15], true, [], [], false⟩] (by decide) ?_
      simp (maxSteps := 2000000) -implicitDefEqProofs only [zz, zE, evop, ev, ofVal, tget, tput, ok, V.isUndef, intBin, guardOf, initT, Ch.on, calleeOf, withArgs, told, xport, xports, tids, tidss, hget, hput, Blk.ice, freeze, V.cells, D.cells, V.isAgg, V.one, V.clo, clos, V.toD, loadD, structAt, eqCells, D.scalarEq, sliceOf, partsD, partsV, bound, isPtr, Blk.width, elems, lenOf, splice, D.over, resOf, resV, resVs, ↓reduceIte, reduceCtorEq, ↓reduceDIte, Nat.reduceLT, Nat.reduceEqDiff, Nat.reduceAdd, Nat.reduceSub, Nat.reduceMul, Nat.reduceLeDiff, Nat.reduceBEq, Nat.reduceBNe, Int.reduceNeg, Int.reduceAdd, Int.reduceSub, Int.reduceToNat, nilTest, shiftH, Blk.ren, V.ren, renL, initV, frameH, putL, frρ, dI, finN_ret, finN_normal, cutK_normal, cutK_ret, cutK_exit, hij, List.getElem?_map, gi, ga, Option.map_some, Int.natCast_nonneg]
      refine ⟨by omega, by omega, ?_⟩
      refine dcall_flat (ds := cap.take f.2 ++ (dI (ys.getD j1 0) :: dI (ys.getD a 0) :: cap.drop f.2)) (xports_two cap f.2 _ _ hC.1) (hC.2 _ _ (hM _ (I1.ps.perm.mem_iff.1 (List.mem_of_getElem? gi))) (hM _ (I1.ps.perm.mem_iff.1 (List.mem_of_getElem? ga)))) rfl ?_
      have hd : decide (c (ys.getD j1 0) (ys.getD a 0) < 0) = false := by simpa using hlt
      simp (maxSteps := 2000000) -implicitDefEqProofs only [zz, zE, evop, ev, ofVal, tget, tput, ok, V.isUndef, intBin, guardOf, initT, Ch.on, calleeOf, withArgs, told, xport, xports, tids, tidss, hget, hput, Blk.ice, freeze, V.cells, D.cells, V.isAgg, V.one, V.clo, clos, V.toD, loadD, structAt, eqCells, D.scalarEq, sliceOf, partsD, partsV, bound, isPtr, Blk.width, elems, lenOf, splice, D.over, resOf, resV, resVs, ↓reduceIte, reduceCtorEq, ↓reduceDIte, Nat.reduceLT, Nat.reduceEqDiff, Nat.reduceAdd, Nat.reduceSub, Nat.reduceMul, Nat.reduceLeDiff, Nat.reduceBEq, Nat.reduceBNe, Int.reduceNeg, Int.reduceAdd, Int.reduceSub, Int.reduceToNat, nilTest, shiftH, Blk.ren, V.ren, renL, initV, frameH, putL, frρ, dI, finN_ret, finN_normal, cutK_normal, cutK_ret, cutK_exit, hd]
      exact ⟨j1, ⟨⟨I1.ps, I1.lo, by omega, by omega, I1.less, fun x h1 h2 => by
        by_cases hx : x = j1
        · rw [hx]; exact hlt
        · exact I1.more x (by omega) h2⟩, by omega⟩, by omega, Weak.trimsM 1 (by simp) rfl (by simp [tget, hwi, V.lower, lowerL_ds]) (by simp [Blk.lower])⟩
    case' inr.inl =>
      obtain ⟨j1, rfl⟩ : ∃ j1, j = j1 + 1 := ⟨j - 1, by omega⟩
      have ej : (((j1 + 1 : Nat) : Int) - 1) = (j1 : Int) := by omega
      have ej2 : j1 + 1 - 1 = j1 := by omega
      rw [ej2] at hlt
      simp only [ej] at hij ⊢
      have hwi : IntKind.i64.wrap ((j1 : Int) - 1) = (j1 : Int) - 1 := by rw [wrap_in (by omega)]
      have gi := getD_some (l := ys) (i := j1) (by omega)
      have e2 : i < j1 + 1 → c (ys.getD j1 0) (ys.getD a 0) < 0 := fun _ => Classical.not_not.1 hlt
      simp (maxSteps := 2000000) -implicitDefEqProofs only [zz, zE, evop, ev, ofVal, tget, tput, ok, V.isUndef, intBin, guardOf, initT, Ch.on, calleeOf, withArgs, told, xport, xports, tids, tidss, hget, hput, Blk.ice, freeze, V.cells, D.cells, V.isAgg, V.one, V.clo, clos, V.toD, loadD, structAt, eqCells, D.scalarEq, sliceOf, partsD, partsV, bound, isPtr, Blk.width, elems, lenOf, splice, D.over, resOf, resV, resVs, ↓reduceIte, reduceCtorEq, ↓reduceDIte, Nat.reduceLT, Nat.reduceEqDiff, Nat.reduceAdd, Nat.reduceSub, Nat.reduceMul, Nat.reduceLeDiff, Nat.reduceBEq, Nat.reduceBNe, Int.reduceNeg, Int.reduceAdd, Int.reduceSub, Int.reduceToNat, nilTest, shiftH, Blk.ren, V.ren, renL, initV, frameH, putL, frρ, dI, finN_ret, finN_normal, cutK_normal, cutK_ret, cutK_exit, hij]
      refine wdraw_plan [⟨[], false, [51], [], false⟩, ⟨[], false, [50], [0], false⟩, ⟨[0, 1], true, [], [], false⟩, ⟨[0, 1, 2], true, [], [], false⟩, ⟨[0, 1, 2, 3], false, [55, 56, 57, 58, 59, 60, 61, 62], [], false⟩, ⟨[0, 1, 2, 3], false, [54, 56, 59, 60, 61, 62], [4], false⟩, ⟨[0, 1, 2, 3], false, [54, 55, 59, 60, 61, 62], [4, 5], false⟩, ⟨[0, 1, 2, 3, 5, 6], false, [54, 59, 60, 61, 62], [4], false⟩, ⟨[0, 1, 2, 3, 5, 6, 7], false, [54, 59, 60, 61, 62], [4], false⟩, ⟨[0, 1, 2, 3], false, [54, 55, 56, 57, 58, 60], [4, 5, 6, 7, 8], false⟩, ⟨[0, 1, 2, 3], false, [54, 55, 56, 57, 58, 59], [4, 5, 6, 7, 8, 9], false⟩, ⟨[0, 1, 2, 3, 9, 10], false, [54, 55, 56, 57, 58], [4, 5, 6, 7, 8], false⟩, ⟨[0, 1, 2, 3, 9, 10, 11], false, [54, 55, 56, 57, 58], [4, 5, 6, 7, 8], false⟩, ⟨[0, 1, 2, 3, 4, 5, 6, 7, 8, 9, 10, 11, 12], false, [], [], false⟩, ⟨[0, 1, 2, 3, 4, 5, 6, 7, 8, 9, 10, 11, 12, 13], false, [], [], false⟩, ⟨[0, 1, 2, 3, 4, 5, 6, 7, 8, 9, 10, 11, 12, 13, 14], false, [], [], false⟩, ⟨[0, 1, 2, 3, 4, 5, 6, 7, 8, 9, 10, 11, 12, 13, 14, 15], true, [], [], false⟩] (by decide) ?_
      simp (maxSteps := 2000000) -implicitDefEqProofs only [zz, zE, evop, ev, ofVal, tget, tput, ok, V.isUndef, intBin, guardOf, initT, Ch.on, calleeOf, withArgs, told, xport, xports, tids, tidss, hget, hput, Blk.ice, freeze, V.cells, D.cells, V.isAgg, V.one, V.clo, clos, V.toD, loadD, structAt, eqCells, D.scalarEq, sliceOf, partsD, partsV, bound, isPtr, Blk.width, elems, lenOf, splice, D.over, resOf, resV, resVs, ↓reduceIte, reduceCtorEq, ↓reduceDIte, Nat.reduceLT, Nat.reduceEqDiff, Nat.reduceAdd, Nat.reduceSub, Nat.reduceMul, Nat.reduceLeDiff, Nat.reduceBEq, Nat.reduceBNe, Int.reduceNeg, Int.reduceAdd, Int.reduceSub, Int.reduceToNat, nilTest, shiftH, Blk.ren, V.ren, renL, initV, frameH, putL, frρ, dI, finN_ret, finN_normal, cutK_normal, cutK_ret, cutK_exit, hij, List.getElem?_map, gi, ga, Option.map_some, Int.natCast_nonneg]
      refine ⟨by omega, by omega, ?_⟩
      refine dcall_flat (ds := cap.take f.2 ++ (dI (ys.getD j1 0) :: dI (ys.getD a 0) :: cap.drop f.2)) (xports_two cap f.2 _ _ hC.1) (hC.2 _ _ (hM _ (I1.ps.perm.mem_iff.1 (List.mem_of_getElem? gi))) (hM _ (I1.ps.perm.mem_iff.1 (List.mem_of_getElem? ga)))) rfl ?_
      have hd : decide (c (ys.getD j1 0) (ys.getD a 0) < 0) = true := by simpa using hlt
      simp (maxSteps := 2000000) -implicitDefEqProofs only [zz, zE, evop, ev, ofVal, tget, tput, ok, V.isUndef, intBin, guardOf, initT, Ch.on, calleeOf, withArgs, told, xport, xports, tids, tidss, hget, hput, Blk.ice, freeze, V.cells, D.cells, V.isAgg, V.one, V.clo, clos, V.toD, loadD, structAt, eqCells, D.scalarEq, sliceOf, partsD, partsV, bound, isPtr, Blk.width, elems, lenOf, splice, D.over, resOf, resV, resVs, ↓reduceIte, reduceCtorEq, ↓reduceDIte, Nat.reduceLT, Nat.reduceEqDiff, Nat.reduceAdd, Nat.reduceSub, Nat.reduceMul, Nat.reduceLeDiff, Nat.reduceBEq, Nat.reduceBNe, Int.reduceNeg, Int.reduceAdd, Int.reduceSub, Int.reduceToNat, nilTest, shiftH, Blk.ren, V.ren, renL, initV, frameH, putL, frρ, dI, finN_ret, finN_normal, cutK_normal, cutK_ret, cutK_exit, hd]
      have c2 := Classical.not_not.1 hlt
      have c1 := e1 (by omega)
      have hne : i ≠ j1 := fun e => c1 (e ▸ c2)
      have hge : ¬ ((j1 : Int) < (i : Int)) := by omega
      have gI := getD_some (l := ys) (i := i) (by omega)
      have gJ := getD_some (l := ys) (i := j1) (by omega)
      have g3 : (ys.set i (ys.getD j1 0))[j1]? = some ((ys.set i (ys.getD j1 0)).getD j1 0) := getD_some (by simp; omega)
      have g4 : (ys.set i (ys.getD j1 0)).set j1 (ys.getD i 0) = sw ys i j1 := rfl
      have hwi2 : IntKind.i64.wrap ((i : Int) + 1) = ((i + 1 : Nat) : Int) := by rw [wrap_in (by omega)]; omega
      simp (maxSteps := 2000000) -implicitDefEqProofs only [zz, zE, evop, ev, ofVal, tget, tput, ok, V.isUndef, intBin, guardOf, initT, Ch.on, calleeOf, withArgs, told, xport, xports, tids, tidss, hget, hput, Blk.ice, freeze, V.cells, D.cells, V.isAgg, V.one, V.clo, clos, V.toD, loadD, structAt, eqCells, D.scalarEq, sliceOf, partsD, partsV, bound, isPtr, Blk.width, elems, lenOf, splice, D.over, resOf, resV, resVs, ↓reduceIte, reduceCtorEq, ↓reduceDIte, Nat.reduceLT, Nat.reduceEqDiff, Nat.reduceAdd, Nat.reduceSub, Nat.reduceMul, Nat.reduceLeDiff, Nat.reduceBEq, Nat.reduceBNe, Int.reduceNeg, Int.reduceAdd, Int.reduceSub, Int.reduceToNat, nilTest, shiftH, Blk.ren, V.ren, renL, initV, frameH, putL, frρ, dI, finN_ret, finN_normal, cutK_normal, cutK_ret, cutK_exit, hge]
      refine wdraw_plan [⟨[], false, [88, 89, 90, 91, 92, 93, 94, 95, 96, 97, 98], [], false⟩, ⟨[], false, [87, 89, 90, 91, 92, 93, 94, 95, 96, 97, 98], [0], false⟩, ⟨[], false, [87, 88, 89, 90, 91, 92, 93, 94, 95, 96, 97, 98, 99, 100], [0, 1], true⟩, ⟨[], false, [87, 88, 89, 90, 91, 92, 93, 94, 95, 96, 97, 98, 99, 100], [0, 1, 2], true⟩, ⟨[], false, [87, 88, 89, 90, 92, 95, 96, 97, 98], [0, 1, 2, 3], false⟩, ⟨[], false, [87, 88, 89, 90, 91, 95, 96, 97, 98], [0, 1, 2, 3, 4], false⟩, ⟨[4, 5], false, [87, 88, 89, 90, 95, 96, 97, 98], [0, 1, 2, 3], false⟩, ⟨[4, 5, 6], false, [87, 88, 89, 90, 95, 96, 97, 98], [0, 1, 2, 3], false⟩, ⟨[], false, [87, 88, 89, 90, 91, 92, 93, 94, 96], [0, 1, 2, 3, 4, 5, 6, 7], false⟩, ⟨[], false, [87, 88, 89, 90, 91, 92, 93, 94, 95], [0, 1, 2, 3, 4, 5, 6, 7, 8], false⟩, ⟨[8, 9], false, [87, 88, 89, 90, 91, 92, 93, 94], [0, 1, 2, 3, 4, 5, 6, 7], false⟩, ⟨[8, 9, 10], false, [87, 88, 89, 90, 91, 92, 93, 94], [0, 1, 2, 3, 4, 5, 6, 7], false⟩, ⟨[0, 1, 4, 5, 6, 7, 8, 9, 10, 11], false, [89, 90], [2, 3], false⟩, ⟨[0, 1, 4, 5, 6, 7, 8, 9, 10, 11, 12], true, [89, 90], [], false⟩, ⟨[0, 1, 2, 3, 4, 5, 6, 7, 8, 9, 10, 11, 12, 13], true, [], [], false⟩, ⟨[0, 1, 2, 3, 4, 5, 6, 7, 8, 9, 10, 11, 12, 13, 14], true, [], [], false⟩] (by decide) ?_
      simp (maxSteps := 2000000) -implicitDefEqProofs only [zz, zE, evop, ev, ofVal, tget, tput, ok, V.isUndef, intBin, guardOf, initT, Ch.on, calleeOf, withArgs, told, xport, xports, tids, tidss, hget, hput, Blk.ice, freeze, V.cells, D.cells, V.isAgg, V.one, V.clo, clos, V.toD, loadD, structAt, eqCells, D.scalarEq, sliceOf, partsD, partsV, bound, isPtr, Blk.width, elems, lenOf, splice, D.over, resOf, resV, resVs, ↓reduceIte, reduceCtorEq, ↓reduceDIte, Nat.reduceLT, Nat.reduceEqDiff, Nat.reduceAdd, Nat.reduceSub, Nat.reduceMul, Nat.reduceLeDiff, Nat.reduceBEq, Nat.reduceBNe, Int.reduceNeg, Int.reduceAdd, Int.reduceSub, Int.reduceToNat, nilTest, shiftH, Blk.ren, V.ren, renL, initV, frameH, putL, frρ, dI, finN_ret, finN_normal, cutK_normal, cutK_ret, cutK_exit, List.getElem?_map, gI, gJ, g3, Option.map_some, Int.natCast_nonneg, set_dI, g4]
      have hS := PS.sw (zs := ys) (a := a) (b := b) (i := i) (j := j1) (by omega) ⟨by omega, by omega⟩ ⟨by omega, by omega⟩
      have gd := sw_getD ys (i := i) (j := j1) (by omega) (by omega)
      have gda : (sw ys i j1).getD a 0 = ys.getD a 0 := by rw [gd, if_neg (show ¬ a = j1 by omega), if_neg (show ¬ a = i by omega)]
      have IN : Part c zs a b (i + 1) j1 (sw ys i j1) := ⟨I1.ps.trans hS, by omega, by omega, by omega, fun x h1 h2 => by
        rw [gda, gd x, if_neg (show ¬ x = j1 by omega)]
        by_cases hx : x = i
        · rw [if_pos hx]; exact c2
        · rw [if_neg hx]; exact I1.less x h1 (by omega)
      , fun x h1 h2 => by
        rw [gda, gd x]
        by_cases hx : x = j1
        · rw [if_pos hx]; exact c1
        · rw [if_neg hx, if_neg (by omega)]; exact I1.more x (by omega) h2
      ⟩
      refine ⟨by omega, by omega, by omega, by omega, ?_⟩
      try simp (maxSteps := 2000000) -implicitDefEqProofs only [zz, zE, evop, ev, ofVal, tget, tput, ok, V.isUndef, intBin, guardOf, initT, Ch.on, calleeOf, withArgs, told, xport, xports, tids, tidss, hget, hput, Blk.ice, freeze, V.cells, D.cells, V.isAgg, V.one, V.clo, clos, V.toD, loadD, structAt, eqCells, D.scalarEq, sliceOf, partsD, partsV, bound, isPtr, Blk.width, elems, lenOf, splice, D.over, resOf, resV, resVs, ↓reduceIte, reduceCtorEq, ↓reduceDIte, Nat.reduceLT, Nat.reduceEqDiff, Nat.reduceAdd, Nat.reduceSub, Nat.reduceMul, Nat.reduceLeDiff, Nat.reduceBEq, Nat.reduceBNe, Int.reduceNeg, Int.reduceAdd, Int.reduceSub, Int.reduceToNat, nilTest, shiftH, Blk.ren, V.ren, renL, initV, frameH, putL, frρ, dI, finN_ret, finN_normal, cutK_normal, cutK_ret, cutK_exit]
      exact Snd.weak (Weak.trimsM 1 (by simp) rfl (by simp [tget, hwi, hwi2, V.lower, lowerL_ds]) (by simp [Blk.lower])) (tail (i + 1) j1 _ IN)
    case' inr.inr =>
      have e2 : i < j → c (ys.getD (j - 1) 0) (ys.getD a 0) < 0 := fun h => absurd h (by omega)
      simp (maxSteps := 2000000) -implicitDefEqProofs only [zz, zE, evop, ev, ofVal, tget, tput, ok, V.isUndef, intBin, guardOf, initT, Ch.on, calleeOf, withArgs, told, xport, xports, tids, tidss, hget, hput, Blk.ice, freeze, V.cells, D.cells, V.isAgg, V.one, V.clo, clos, V.toD, loadD, structAt, eqCells, D.scalarEq, sliceOf, partsD, partsV, bound, isPtr, Blk.width, elems, lenOf, splice, D.over, resOf, resV, resVs, ↓reduceIte, reduceCtorEq, ↓reduceDIte, Nat.reduceLT, Nat.reduceEqDiff, Nat.reduceAdd, Nat.reduceSub, Nat.reduceMul, Nat.reduceLeDiff, Nat.reduceBEq, Nat.reduceBNe, Int.reduceNeg, Int.reduceAdd, Int.reduceSub, Int.reduceToNat, nilTest, shiftH, Blk.ren, V.ren, renL, initV, frameH, putL, frρ, dI, finN_ret, finN_normal, cutK_normal, cutK_ret, cutK_exit, hij]
      refine wdraw_plan [⟨[], false, [51], [], false⟩, ⟨[], false, [50], [0], false⟩, ⟨[0, 1], true, [], [], false⟩, ⟨[0, 1, 2], true, [], [], false⟩, ⟨[0, 1, 2, 3], false, [55, 56, 57, 58, 59, 60, 61, 62], [], false⟩, ⟨[0, 1, 2, 3], false, [54, 56, 59, 60, 61, 62], [4], false⟩, ⟨[0, 1, 2, 3], false, [54, 55, 59, 60, 61, 62], [4, 5], false⟩, ⟨[0, 1, 2, 3, 5, 6], false, [54, 59, 60, 61, 62], [4], false⟩, ⟨[0, 1, 2, 3, 5, 6, 7], false, [54, 59, 60, 61, 62], [4], false⟩, ⟨[0, 1, 2, 3], false, [54, 55, 56, 57, 58, 60], [4, 5, 6, 7, 8], false⟩, ⟨[0, 1, 2, 3], false, [54, 55, 56, 57, 58, 59], [4, 5, 6, 7, 8, 9], false⟩, ⟨[0, 1, 2, 3, 9, 10], false, [54, 55, 56, 57, 58], [4, 5, 6, 7, 8], false⟩, ⟨[0, 1, 2, 3, 9, 10, 11], false, [54, 55, 56, 57, 58], [4, 5, 6, 7, 8], false⟩, ⟨[0, 1, 2, 3, 4, 5, 6, 7, 8, 9, 10, 11, 12], false, [], [], false⟩, ⟨[0, 1, 2, 3, 4, 5, 6, 7, 8, 9, 10, 11, 12, 13], false, [], [], false⟩, ⟨[0, 1, 2, 3, 4, 5, 6, 7, 8, 9, 10, 11, 12, 13, 14], false, [], [], false⟩, ⟨[0, 1, 2, 3, 4, 5, 6, 7, 8, 9, 10, 11, 12, 13, 14, 15], true, [], [], false⟩] (by decide) ?_
      simp (maxSteps := 2000000) -implicitDefEqProofs only [zz, zE, evop, ev, ofVal, tget, tput, ok, V.isUndef, intBin, guardOf, initT, Ch.on, calleeOf, withArgs, told, xport, xports, tids, tidss, hget, hput, Blk.ice, freeze, V.cells, D.cells, V.isAgg, V.one, V.clo, clos, V.toD, loadD, structAt, eqCells, D.scalarEq, sliceOf, partsD, partsV, bound, isPtr, Blk.width, elems, lenOf, splice, D.over, resOf, resV, resVs, ↓reduceIte, reduceCtorEq, ↓reduceDIte, Nat.reduceLT, Nat.reduceEqDiff, Nat.reduceAdd, Nat.reduceSub, Nat.reduceMul, Nat.reduceLeDiff, Nat.reduceBEq, Nat.reduceBNe, Int.reduceNeg, Int.reduceAdd, Int.reduceSub, Int.reduceToNat, nilTest, shiftH, Blk.ren, V.ren, renL, initV, frameH, putL, frρ, dI, finN_ret, finN_normal, cutK_normal, cutK_ret, cutK_exit, hij]
      have ei : i = j := by omega
      have hge : ((j : Int) - 1 < (i : Int)) := by omega
      simp (maxSteps := 2000000) -implicitDefEqProofs only [zz, zE, evop, ev, ofVal, tget, tput, ok, V.isUndef, intBin, guardOf, initT, Ch.on, calleeOf, withArgs, told, xport, xports, tids, tidss, hget, hput, Blk.ice, freeze, V.cells, D.cells, V.isAgg, V.one, V.clo, clos, V.toD, loadD, structAt, eqCells, D.scalarEq, sliceOf, partsD, partsV, bound, isPtr, Blk.width, elems, lenOf, splice, D.over, resOf, resV, resVs, ↓reduceIte, reduceCtorEq, ↓reduceDIte, Nat.reduceLT, Nat.reduceEqDiff, Nat.reduceAdd, Nat.reduceSub, Nat.reduceMul, Nat.reduceLeDiff, Nat.reduceBEq, Nat.reduceBNe, Int.reduceNeg, Int.reduceAdd, Int.reduceSub, Int.reduceToNat, nilTest, shiftH, Blk.ren, V.ren, renL, initV, frameH, putL, frρ, dI, finN_ret, finN_normal, cutK_normal, cutK_ret, cutK_exit, hge]
      subst ei
      obtain ⟨s1, s2, s3⟩ := pt_swap hC zs hM hl hb hab I1
    obtain ⟨j, rfl⟩ : ∃ j, i = j + 1 := ⟨i - 1, by omega⟩
    have ej : (((j + 1 : Nat) : Int) - 1) = (j : Int) := by omega
    have ej2 : j + 1 - 1 = j := by omega
    rw [ej2] at s1 s2 s3
    simp only [ej]
    have g1 := getD_some (l := ys) (i := a) (by omega)
    have g2 := getD_some (l := ys) (i := j) (by omega)
    have g3 : (ys.set j (ys.getD a 0))[a]? = some ((ys.set j (ys.getD a 0)).getD a 0) := getD_some (by simp; omega)
    have g4 : (ys.set j (ys.getD a 0)).set a (ys.getD j 0) = sw ys j a := rfl
    refine wdraw_plan [⟨[], false, [73, 74, 75, 76, 77, 78, 79, 80, 81, 82, 83], [], false⟩, ⟨[], false, [72, 74, 75, 76, 77, 78, 79, 80, 81, 82, 83], [0], false⟩, ⟨[], false, [72, 73, 74, 75, 76, 77, 78, 79, 80, 81, 82, 83, 84, 85], [0, 1], true⟩, ⟨[], false, [72, 73, 74, 75, 76, 77, 78, 79, 80, 81, 82, 83, 84, 85], [0, 1, 2], true⟩, ⟨[], false, [72, 73, 74, 75, 77, 80, 81, 82, 83], [0, 1, 2, 3], false⟩, ⟨[], false, [72, 73, 74, 75, 76, 80, 81, 82, 83], [0, 1, 2, 3, 4], false⟩, ⟨[4, 5], false, [72, 73, 74, 75, 80, 81, 82, 83], [0, 1, 2, 3], false⟩, ⟨[4, 5, 6], false, [72, 73, 74, 75, 80, 81, 82, 83], [0, 1, 2, 3], false⟩, ⟨[], false, [72, 73, 74, 75, 76, 77, 78, 79, 81], [0, 1, 2, 3, 4, 5, 6, 7], false⟩, ⟨[], false, [72, 73, 74, 75, 76, 77, 78, 79, 80], [0, 1, 2, 3, 4, 5, 6, 7, 8], false⟩, ⟨[8, 9], false, [72, 73, 74, 75, 76, 77, 78, 79], [0, 1, 2, 3, 4, 5, 6, 7], false⟩, ⟨[8, 9, 10], false, [72, 73, 74, 75, 76, 77, 78, 79], [0, 1, 2, 3, 4, 5, 6, 7], false⟩, ⟨[0, 1, 4, 5, 6, 7, 8, 9, 10, 11], false, [74, 75], [2, 3], false⟩, ⟨[0, 1, 4, 5, 6, 7, 8, 9, 10, 11, 12], true, [74, 75], [], false⟩, ⟨[0, 1, 2, 3, 4, 5, 6, 7, 8, 9, 10, 11, 12, 13], true, [], [], false⟩, ⟨[0, 1, 2, 3, 4, 5, 6, 7, 8, 9, 10, 11, 12, 13, 14], true, [], [], false⟩] (by decide) ?_
    simp (maxSteps := 2000000) -implicitDefEqProofs only [zz, zE, evop, ev, ofVal, tget, tput, ok, V.isUndef, intBin, guardOf, initT, Ch.on, calleeOf, withArgs, told, xport, xports, tids, tidss, hget, hput, Blk.ice, freeze, V.cells, D.cells, V.isAgg, V.one, V.clo, clos, V.toD, loadD, structAt, eqCells, D.scalarEq, sliceOf, partsD, partsV, bound, isPtr, Blk.width, elems, lenOf, splice, D.over, resOf, resV, resVs, ↓reduceIte, reduceCtorEq, ↓reduceDIte, Nat.reduceLT, Nat.reduceEqDiff, Nat.reduceAdd, Nat.reduceSub, Nat.reduceMul, Nat.reduceLeDiff, Nat.reduceBEq, Nat.reduceBNe, Int.reduceNeg, Int.reduceAdd, Int.reduceSub, Int.reduceToNat, nilTest, shiftH, Blk.ren, V.ren, renL, initV, frameH, putL, frρ, dI, finN_ret, finN_normal, cutK_normal, cutK_ret, cutK_exit, List.getElem?_map, g1, g2, g3, Option.map_some, Int.natCast_nonneg, set_dI, g4]
    refine ⟨by omega, by omega, by omega, by omega, ?_⟩
    exact ⟨_, _, ⟨j, true, _, rfl, rfl, s1, by omega, by omega, s2, s3⟩, Weak.trimsM 1 (by simp) rfl (by simp [tget, V.lower, lowerL]) (by simp [Blk.lower, V.lower, lowerL])⟩
end

end Go.Proofs.Ythpapgbpmkgfeaa.AM

/- Lists and the kit's arrays: what its plain sort says, said of lists. -/
set_option linter.all false
namespace Go.Proofs.Ythpapgbpmkgfeaa.AM
open Go

theorem tA_get (ys : List Int) (i : Nat) : ys.toArray[i]! = ys.getD i 0 := by
  simp [List.getD_eq_getElem?_getD, getElem!_def]
  cases ys[i]? <;> rfl
theorem tA_swp {ys : List Int} {i j : Nat} (hi : i < ys.length) (hj : j < ys.length) : Go.Sort.swp ys.toArray i j = (sw ys i j).toArray := by
  unfold Go.Sort.swp sw
  rw [tA_get, tA_get]
  simp
def ltC (c : Int → Int → Int) (x y : Int) : Bool := decide (c x y < 0)

theorem PS.of_perm {a b : Nat} {zs zs' : List Int} (hab : a ≤ b) (hb : b ≤ zs.length) (h : Go.Sort.PermIn a b zs.toArray zs'.toArray) : PS a b zs zs' := by
  obtain ⟨h1, h2, h3⟩ := h
  simp only [List.size_toArray] at h1
  have sp : ∀ l : List Int, l = l.take a ++ (l.drop a).take (b - a) ++ l.drop b := fun l => by
    rw [List.append_assoc]
    have : l.drop b = (l.drop a).drop (b - a) := by rw [List.drop_drop]; congr 1; omega
    rw [this, List.take_append_drop, List.take_append_drop]
  have g : ∀ i, i < a ∨ b ≤ i → zs'[i]? = zs[i]? := fun i hi => by
    have := h2 i hi
    rw [tA_get, tA_get] at this
    by_cases hl : i < zs.length
    · rw [List.getElem?_eq_getElem hl, List.getElem?_eq_getElem (by omega)]
      rw [List.getD_eq_getElem?_getD, List.getD_eq_getElem?_getD, List.getElem?_eq_getElem hl, List.getElem?_eq_getElem (by omega)] at this
      exact congrArg some this
    · rw [List.getElem?_eq_none (by omega), List.getElem?_eq_none (by omega)]
  have e1 : zs'.take a = zs.take a := by
    apply List.ext_getElem?
    intro i
    by_cases hi : i < a
    · rw [List.getElem?_take_of_lt hi, List.getElem?_take_of_lt hi]; exact g i (.inl hi)
    · rw [List.getElem?_take_eq_none (by omega), List.getElem?_take_eq_none (by omega)]
  have e2 : zs'.drop b = zs.drop b := by
    apply List.ext_getElem?
    intro i
    rw [List.getElem?_drop, List.getElem?_drop]; exact g _ (.inr (by omega))
  refine ⟨zs.take a, (zs.drop a).take (b - a), (zs'.drop a).take (b - a), zs.drop b, sp zs, ?_, by simp; omega, by simp; omega, ?_⟩
  · conv => lhs; rw [sp zs', e1, e2]
  · simp only [List.extract_toArray, List.extract_eq_drop_take] at h3
    exact h3

theorem PS.to_perm {a b : Nat} {zs zs' : List Int} (h : PS a b zs zs') : Go.Sort.PermIn a b zs.toArray zs'.toArray := by
  refine ⟨by simpa using h.len, fun i hi => ?_, ?_⟩
  · rw [tA_get, tA_get, List.getD_eq_getElem?_getD, List.getD_eq_getElem?_getD, h.out hi]
  · obtain ⟨L, X, X', R, rfl, rfl, l1, l2, p⟩ := h
    have hl := p.length_eq
    have e : ∀ Y : List Int, Y.length = X.length → ((L ++ Y ++ R).toArray.extract a b).toList = Y := fun Y hY => by
      simp only [List.extract_toArray, List.extract_eq_drop_take]
      rw [List.append_assoc, List.drop_append_of_le_length (by omega), ← l1, List.drop_length, List.nil_append, List.take_append_of_le_length (by omega), List.take_of_length_le (by omega)]
    rw [e X rfl, e X' hl]
    exact p

/-- A part that is in order. -/
def SoIn (c : Int → Int → Int) (a b : Nat) (zs : List Int) : Prop := ∀ i j, a ≤ i → i < j → j < b → ¬ c (zs.getD j 0) (zs.getD i 0) < 0

theorem SoIn.of {c : Int → Int → Int} {a b : Nat} {zs : List Int} (h : Go.Sort.SortedIn (ltC c) a b zs.toArray) : SoIn c a b zs := fun i j h1 h2 h3 => by
  have := h i j h1 h2 h3
  rw [tA_get, tA_get] at this
  simpa [ltC] using this
theorem SoIn.to {c : Int → Int → Int} {a b : Nat} {zs : List Int} (h : SoIn c a b zs) : Go.Sort.SortedIn (ltC c) a b zs.toArray := fun i j h1 h2 h3 => by
  rw [tA_get, tA_get]
  simpa [ltC] using h i j h1 h2 h3

end Go.Proofs.Ythpapgbpmkgfeaa.AM

/- Sorting parts: the heap, as the kit's plain one. -/
set_option linter.all false
set_option maxRecDepth 100000
set_option maxHeartbeats 4000000
namespace Go.Proofs.Ythpapgbpmkgfeaa.AM
open Go Go.RowKit

theorem ltC_t {c : Int → Int → Int} {x y : Int} (h : c x y < 0) : ltC c x y = true := decide_eq_true h
theorem ltC_f {c : Int → Int → Int} {x y : Int} (h : ¬ c x y < 0) : ltC c x y = false := decide_eq_false h
theorem sift_stop {lt : Int → Int → Bool} {hi first k : Nat} {d : Array Int} (h : ¬ 2 * k + 1 < hi) : Sort.siftDown lt hi first k d = d := by
  rw [Sort.siftDown]; simp [show 2 * k + 1 ≥ hi by omega]
theorem sift_go {lt : Int → Int → Bool} {hi first k ch : Nat} {d : Array Int} (h : 2 * k + 1 < hi) (hc : (2 * k + 2 < hi ∧ lt d[first + (2 * k + 1)]! d[first + (2 * k + 2)]! = true ∧ ch = 2 * k + 2) ∨ (¬ (2 * k + 2 < hi ∧ lt d[first + (2 * k + 1)]! d[first + (2 * k + 2)]! = true) ∧ ch = 2 * k + 1)) :
    Sort.siftDown lt hi first k d = if !lt d[first + k]! d[first + ch]! then d else Sort.siftDown lt hi first ch (Sort.swp d (first + k) (first + ch)) := by
  rw [Sort.siftDown]
  have e : first + (2 * k + 1) + 1 = first + (2 * k + 2) := by omega
  rw [dif_neg (by omega), e]
  rcases hc with ⟨h1, h2, rfl⟩ | ⟨h1, rfl⟩
  · rw [if_pos (by simp [h2]; omega)]
    split
    · rfl
    · rfl
  · rw [if_neg (by simp only [Bool.and_eq_true, decide_eq_true_eq]; exact fun ⟨a, b⟩ => h1 ⟨by omega, b⟩)]

section
variable {f : Nat × Nat} {cap : List D} {c : Int → Int → Int} {M : Int → Prop} (hC : CmpC f cap c M) (zs : List Int) (hM : ∀ z ∈ zs, M z) (hl : zs.length ≤ 1000000)
include hC hM hl

theorem n_sift (lo hi first : Nat) (hlo : lo ≤ 1000000) (hb : first + hi ≤ zs.length) :
    NSpec Try.prog 95 [.own 0 0 zs.length, .d (.int .i64 lo), .d (.int .i64 hi), .d (.int .i64 first), .func f (cap.map V.d)] [.dat false 1 (zs.map dI)]
      (OutL (fun zs' => zs' = (Sort.siftDown (ltC c) hi first lo zs.toArray).toList)) := by
  refine NSpec.of_awp envOf_ok hmix Try.func95 rfl (fun args w => Try.call95 args w) (by simp [Try.f95]) ?_
  simp only [Try.f95]
  simp (maxSteps := 2000000) -implicitDefEqProofs only [zz, zE, evop, ev, ofVal, tget, tput, ok, V.isUndef, intBin, guardOf, initT, Ch.on, calleeOf, withArgs, told, xport, xports, tids, tidss, hget, hput, Blk.ice, freeze, V.cells, D.cells, V.isAgg, V.one, V.clo, clos, V.toD, loadD, structAt, eqCells, D.scalarEq, sliceOf, partsD, partsV, bound, isPtr, Blk.width, elems, lenOf, splice, D.over, resOf, resV, resVs, ↓reduceIte, reduceCtorEq, ↓reduceDIte, Nat.reduceLT, Nat.reduceEqDiff, Nat.reduceAdd, Nat.reduceSub, Nat.reduceMul, Nat.reduceLeDiff, Nat.reduceBEq, Nat.reduceBNe, Int.reduceNeg, Int.reduceAdd, Int.reduceSub, Int.reduceToNat, nilTest, shiftH, Blk.ren, V.ren, renL, initV, frameH, putL, frρ, dI, finN_ret, finN_normal, cutK_normal, cutK_ret, cutK_exit]
  refine wloop_ind (σ := Nat × List Int) (fun s => hi - s.1) (fun s => [(10, .d (.int .i64 (s.1 : Int))), (0, .own 0 0 zs.length), (2, .d (.int .i64 hi)), (3, .d (.int .i64 first)), (4, .func f (cap.map V.d))]) (fun s => [.dat false 1 (s.2.map dI)]) (fun s => s.1 ≤ 1000000 ∧ s.2.length = zs.length ∧ s.2.Perm zs ∧ Sort.siftDown (ltC c) hi first s.1 s.2.toArray = Sort.siftDown (ltC c) hi first lo zs.toArray) (lo, zs) ⟨hlo, rfl, .refl _, rfl⟩ (Weak.sub (by simp [tget])) ?_
  rintro ⟨k, ys⟩ ⟨hk, hyl, hp, hR⟩
  simp only at hk hyl hp hR
  rw [← hR]
  have hMy : ∀ i v, ys[i]? = some v → M v := fun i v h => hM v (hp.mem_iff.1 (List.mem_of_getElem? h))
  obtain ⟨c1, hc1⟩ : ∃ c1, c1 = 2 * k + 1 := ⟨_, rfl⟩
  have w1 : IntKind.i64.wrap (2 * (k : Int)) = 2 * (k : Int) := by rw [wrap_in (by omega)]
  have w2 : IntKind.i64.wrap (2 * (k : Int) + 1) = (c1 : Int) := by rw [wrap_in (by omega)]; omega
  have w3 : IntKind.i64.wrap ((c1 : Int) + 1) = ((c1 + 1 : Nat) : Int) := by rw [wrap_in (by omega)]; omega
  by_cases h1 : (c1 : Int) ≥ (hi : Int)
  · simp (maxSteps := 2000000) -implicitDefEqProofs only [zz, zE, evop, ev, ofVal, tget, tput, ok, V.isUndef, intBin, guardOf, initT, Ch.on, calleeOf, withArgs, told, xport, xports, tids, tidss, hget, hput, Blk.ice, freeze, V.cells, D.cells, V.isAgg, V.one, V.clo, clos, V.toD, loadD, structAt, eqCells, D.scalarEq, sliceOf, partsD, partsV, bound, isPtr, Blk.width, elems, lenOf, splice, D.over, resOf, resV, resVs, ↓reduceIte, reduceCtorEq, ↓reduceDIte, Nat.reduceLT, Nat.reduceEqDiff, Nat.reduceAdd, Nat.reduceSub, Nat.reduceMul, Nat.reduceLeDiff, Nat.reduceBEq, Nat.reduceBNe, Int.reduceNeg, Int.reduceAdd, Int.reduceSub, Int.reduceToNat, nilTest, shiftH, Blk.ren, V.ren, renL, initV, frameH, putL, frρ, dI, finN_ret, finN_normal, cutK_normal, cutK_ret, cutK_exit, w1, w2, h1]
    exact ⟨_, _, ⟨ys, rfl, rfl, by rw [sift_stop (by omega)]⟩, Weak.trimsM 1 (by simp) rfl (by simp [tget, V.lower, lowerL, lowerL_ds]) (by simp [Blk.lower])⟩
  · have w4 : IntKind.i64.wrap ((first : Int) + (c1 : Int)) = ((first + c1 : Nat) : Int) := by rw [wrap_in (by omega)]; omega
    have w5 : IntKind.i64.wrap (((first + c1 : Nat) : Int) + 1) = ((first + (c1 + 1) : Nat) : Int) := by rw [wrap_in (by omega)]; omega
    rcases (show (((c1 + 1 : Nat) : Int) < (hi : Int) ∧ c (ys.getD (first + c1) 0) (ys.getD (first + (c1 + 1)) 0) < 0) ∨ (((c1 + 1 : Nat) : Int) < (hi : Int) ∧ ¬ c (ys.getD (first + c1) 0) (ys.getD (first + (c1 + 1)) 0) < 0) ∨ ¬ ((c1 + 1 : Nat) : Int) < (hi : Int) by
      by_cases h1 : ((c1 + 1 : Nat) : Int) < (hi : Int)
      · by_cases h2 : c (ys.getD (first + c1) 0) (ys.getD (first + (c1 + 1)) 0) < 0
        · exact .inl ⟨h1, h2⟩
        · exact .inr (.inl ⟨h1, h2⟩)
      · exact .inr (.inr h1)) with ⟨h2, h3⟩ | ⟨h2, h3⟩ | h2
    case' inl =>
      have g1 := getD_some (l := ys) (i := first + c1) (by omega)
      have g2 := getD_some (l := ys) (i := first + (c1 + 1)) (by omega)
      have hs := sift_go (lt := ltC c) (hi := hi) (first := first) (k := k) (ch := c1 + 1) (d := ys.toArray) (by omega) (.inl ⟨by omega, by rw [tA_get, tA_get]; simpa [ltC, hc1, Nat.add_assoc] using h3, by omega⟩)
      simp (maxSteps := 2000000) -implicitDefEqProofs only [zz, zE, evop, ev, ofVal, tget, tput, ok, V.isUndef, intBin, guardOf, initT, Ch.on, calleeOf, withArgs, told, xport, xports, tids, tidss, hget, hput, Blk.ice, freeze, V.cells, D.cells, V.isAgg, V.one, V.clo, clos, V.toD, loadD, structAt, eqCells, D.scalarEq, sliceOf, partsD, partsV, bound, isPtr, Blk.width, elems, lenOf, splice, D.over, resOf, resV, resVs, ↓reduceIte, reduceCtorEq, ↓reduceDIte, Nat.reduceLT, Nat.reduceEqDiff, Nat.reduceAdd, Nat.reduceSub, Nat.reduceMul, Nat.reduceLeDiff, Nat.reduceBEq, Nat.reduceBNe, Int.reduceNeg, Int.reduceAdd, Int.reduceSub, Int.reduceToNat, nilTest, shiftH, Blk.ren, V.ren, renL, initV, frameH, putL, frρ, dI, finN_ret, finN_normal, cutK_normal, cutK_ret, cutK_exit, w1, w2, h1]
      refine wdraw_plan [⟨[], false, [21], [], false⟩, ⟨[0], false, [21], [], false⟩, ⟨[], false, [19, 20], [0, 1], false⟩, ⟨[0, 1, 2], true, [], [], false⟩, ⟨[0, 1, 2, 3], true, [], [], false⟩, ⟨[0, 1, 2, 3, 4], false, [25, 26, 27, 28, 29, 30, 31, 32, 33, 34, 35, 36, 37], [], false⟩, ⟨[0, 1, 2, 3, 4], false, [24, 26, 27, 28, 31, 32, 33, 34, 35, 36, 37], [5], false⟩, ⟨[0, 1, 2, 3, 4], false, [24, 25, 27, 31, 32, 33, 34, 35, 36, 37], [5, 6], false⟩, ⟨[0, 1, 2, 3, 4], false, [24, 25, 26, 31, 32, 33, 34, 35, 36, 37], [5, 6, 7], false⟩, ⟨[0, 1, 2, 3, 4, 7, 8], false, [24, 25, 31, 32, 33, 34, 35, 36, 37], [5, 6], false⟩, ⟨[0, 1, 2, 3, 4, 6, 7, 8, 9], false, [24, 31, 32, 33, 34, 35, 36, 37], [5], false⟩, ⟨[0, 1, 2, 3, 4, 6, 7, 8, 9, 10], false, [24, 31, 32, 33, 34, 35, 36, 37], [5], false⟩, ⟨[0, 1, 2, 3, 4], false, [24, 25, 26, 27, 28, 29, 30, 32, 33, 34, 35], [5, 6, 7, 8, 9, 10, 11], false⟩, ⟨[0, 1, 2, 3, 4], false, [24, 25, 26, 27, 28, 29, 30, 31, 33], [5, 6, 7, 8, 9, 10, 11, 12], false⟩, ⟨[0, 1, 2, 3, 4], false, [24, 25, 26, 27, 28, 29, 30, 31, 32], [5, 6, 7, 8, 9, 10, 11, 12, 13], false⟩, ⟨[0, 1, 2, 3, 4, 13, 14], false, [24, 25, 26, 27, 28, 29, 30, 31], [5, 6, 7, 8, 9, 10, 11, 12], false⟩, ⟨[0, 1, 2, 3, 4, 13, 14, 15], false, [24, 25, 26, 27, 28, 29, 30, 31], [5, 6, 7, 8, 9, 10, 11, 12], false⟩, ⟨[0, 1, 2, 3, 4, 12, 13, 14, 15, 16], false, [24, 25, 26, 27, 28, 29, 30], [5, 6, 7, 8, 9, 10, 11], false⟩, ⟨[0, 1, 2, 3, 4, 12, 13, 14, 15, 16, 17], false, [24, 25, 26, 27, 28, 29, 30], [5, 6, 7, 8, 9, 10, 11], false⟩, ⟨[0, 1, 2, 3, 4, 5, 6, 7, 8, 9, 10, 11, 12, 13, 14, 15, 16, 17, 18], false, [], [], false⟩, ⟨[0, 1, 2, 3, 4, 5, 6, 7, 8, 9, 10, 11, 12, 13, 14, 15, 16, 17, 18, 19], false, [], [], false⟩, ⟨[0, 1, 2, 3, 4, 5, 6, 7, 8, 9, 10, 11, 12, 13, 14, 15, 16, 17, 18, 19, 20], true, [], [], false⟩] (by decide) ?_
      simp (maxSteps := 2000000) -implicitDefEqProofs only [zz, zE, evop, ev, ofVal, tget, tput, ok, V.isUndef, intBin, guardOf, initT, Ch.on, calleeOf, withArgs, told, xport, xports, tids, tidss, hget, hput, Blk.ice, freeze, V.cells, D.cells, V.isAgg, V.one, V.clo, clos, V.toD, loadD, structAt, eqCells, D.scalarEq, sliceOf, partsD, partsV, bound, isPtr, Blk.width, elems, lenOf, splice, D.over, resOf, resV, resVs, ↓reduceIte, reduceCtorEq, ↓reduceDIte, Nat.reduceLT, Nat.reduceEqDiff, Nat.reduceAdd, Nat.reduceSub, Nat.reduceMul, Nat.reduceLeDiff, Nat.reduceBEq, Nat.reduceBNe, Int.reduceNeg, Int.reduceAdd, Int.reduceSub, Int.reduceToNat, nilTest, shiftH, Blk.ren, V.ren, renL, initV, frameH, putL, frρ, dI, finN_ret, finN_normal, cutK_normal, cutK_ret, cutK_exit, w3, w4, w5, h2, List.getElem?_map, g1, g2, Option.map_some, Int.natCast_nonneg]
      refine ⟨by omega, by omega, ?_⟩
      refine dcall_flat (ds := cap.take f.2 ++ (dI (ys.getD (first + c1) 0) :: dI (ys.getD (first + (c1 + 1)) 0) :: cap.drop f.2)) (xports_two cap f.2 _ _ hC.1) (hC.2 _ _ (hMy _ _ g1) (hMy _ _ g2)) rfl ?_
      simp (maxSteps := 2000000) -implicitDefEqProofs only [zz, zE, evop, ev, ofVal, tget, tput, ok, V.isUndef, intBin, guardOf, initT, Ch.on, calleeOf, withArgs, told, xport, xports, tids, tidss, hget, hput, Blk.ice, freeze, V.cells, D.cells, V.isAgg, V.one, V.clo, clos, V.toD, loadD, structAt, eqCells, D.scalarEq, sliceOf, partsD, partsV, bound, isPtr, Blk.width, elems, lenOf, splice, D.over, resOf, resV, resVs, ↓reduceIte, reduceCtorEq, ↓reduceDIte, Nat.reduceLT, Nat.reduceEqDiff, Nat.reduceAdd, Nat.reduceSub, Nat.reduceMul, Nat.reduceLeDiff, Nat.reduceBEq, Nat.reduceBNe, Int.reduceNeg, Int.reduceAdd, Int.reduceSub, Int.reduceToNat, nilTest, shiftH, Blk.ren, V.ren, renL, initV, frameH, putL, frρ, dI, finN_ret, finN_normal, cutK_normal, cutK_ret, cutK_exit, h3, w3]
      have h2' : c1 + 1 < hi := by omega
      obtain ⟨ch, hch⟩ : ∃ ch, ch = c1 + 1 := ⟨_, rfl⟩
    case' inr.inl =>
      have g1 := getD_some (l := ys) (i := first + c1) (by omega)
      have g2 := getD_some (l := ys) (i := first + (c1 + 1)) (by omega)
      have hs := sift_go (lt := ltC c) (hi := hi) (first := first) (k := k) (ch := c1) (d := ys.toArray) (by omega) (.inr ⟨by rw [tA_get, tA_get]; rintro ⟨_, h⟩; exact h3 (by simpa [ltC, hc1, Nat.add_assoc] using h), by omega⟩)
      simp (maxSteps := 2000000) -implicitDefEqProofs only [zz, zE, evop, ev, ofVal, tget, tput, ok, V.isUndef, intBin, guardOf, initT, Ch.on, calleeOf, withArgs, told, xport, xports, tids, tidss, hget, hput, Blk.ice, freeze, V.cells, D.cells, V.isAgg, V.one, V.clo, clos, V.toD, loadD, structAt, eqCells, D.scalarEq, sliceOf, partsD, partsV, bound, isPtr, Blk.width, elems, lenOf, splice, D.over, resOf, resV, resVs, ↓reduceIte, reduceCtorEq, ↓reduceDIte, Nat.reduceLT, Nat.reduceEqDiff, Nat.reduceAdd, Nat.reduceSub, Nat.reduceMul, Nat.reduceLeDiff, Nat.reduceBEq, Nat.reduceBNe, Int.reduceNeg, Int.reduceAdd, Int.reduceSub, Int.reduceToNat, nilTest, shiftH, Blk.ren, V.ren, renL, initV, frameH, putL, frρ, dI, finN_ret, finN_normal, cutK_normal, cutK_ret, cutK_exit, w1, w2, h1]
      refine wdraw_plan [⟨[], false, [21], [], false⟩, ⟨[0], false, [21], [], false⟩, ⟨[], false, [19, 20], [0, 1], false⟩, ⟨[0, 1, 2], true, [], [], false⟩, ⟨[0, 1, 2, 3], true, [], [], false⟩, ⟨[0, 1, 2, 3, 4], false, [25, 26, 27, 28, 29, 30, 31, 32, 33, 34, 35, 36, 37], [], false⟩, ⟨[0, 1, 2, 3, 4], false, [24, 26, 27, 28, 31, 32, 33, 34, 35, 36, 37], [5], false⟩, ⟨[0, 1, 2, 3, 4], false, [24, 25, 27, 31, 32, 33, 34, 35, 36, 37], [5, 6], false⟩, ⟨[0, 1, 2, 3, 4], false, [24, 25, 26, 31, 32, 33, 34, 35, 36, 37], [5, 6, 7], false⟩, ⟨[0, 1, 2, 3, 4, 7, 8], false, [24, 25, 31, 32, 33, 34, 35, 36, 37], [5, 6], false⟩, ⟨[0, 1, 2, 3, 4, 6, 7, 8, 9], false, [24, 31, 32, 33, 34, 35, 36, 37], [5], false⟩, ⟨[0, 1, 2, 3, 4, 6, 7, 8, 9, 10], false, [24, 31, 32, 33, 34, 35, 36, 37], [5], false⟩, ⟨[0, 1, 2, 3, 4], false, [24, 25, 26, 27, 28, 29, 30, 32, 33, 34, 35], [5, 6, 7, 8, 9, 10, 11], false⟩, ⟨[0, 1, 2, 3, 4], false, [24, 25, 26, 27, 28, 29, 30, 31, 33], [5, 6, 7, 8, 9, 10, 11, 12], false⟩, ⟨[0, 1, 2, 3, 4], false, [24, 25, 26, 27, 28, 29, 30, 31, 32], [5, 6, 7, 8, 9, 10, 11, 12, 13], false⟩, ⟨[0, 1, 2, 3, 4, 13, 14], false, [24, 25, 26, 27, 28, 29, 30, 31], [5, 6, 7, 8, 9, 10, 11, 12], false⟩, ⟨[0, 1, 2, 3, 4, 13, 14, 15], false, [24, 25, 26, 27, 28, 29, 30, 31], [5, 6, 7, 8, 9, 10, 11, 12], false⟩, ⟨[0, 1, 2, 3, 4, 12, 13, 14, 15, 16], false, [24, 25, 26, 27, 28, 29, 30], [5, 6, 7, 8, 9, 10, 11], false⟩, ⟨[0, 1, 2, 3, 4, 12, 13, 14, 15, 16, 17], false, [24, 25, 26, 27, 28, 29, 30], [5, 6, 7, 8, 9, 10, 11], false⟩, ⟨[0, 1, 2, 3, 4, 5, 6, 7, 8, 9, 10, 11, 12, 13, 14, 15, 16, 17, 18], false, [], [], false⟩, ⟨[0, 1, 2, 3, 4, 5, 6, 7, 8, 9, 10, 11, 12, 13, 14, 15, 16, 17, 18, 19], false, [], [], false⟩, ⟨[0, 1, 2, 3, 4, 5, 6, 7, 8, 9, 10, 11, 12, 13, 14, 15, 16, 17, 18, 19, 20], true, [], [], false⟩] (by decide) ?_
      simp (maxSteps := 2000000) -implicitDefEqProofs only [zz, zE, evop, ev, ofVal, tget, tput, ok, V.isUndef, intBin, guardOf, initT, Ch.on, calleeOf, withArgs, told, xport, xports, tids, tidss, hget, hput, Blk.ice, freeze, V.cells, D.cells, V.isAgg, V.one, V.clo, clos, V.toD, loadD, structAt, eqCells, D.scalarEq, sliceOf, partsD, partsV, bound, isPtr, Blk.width, elems, lenOf, splice, D.over, resOf, resV, resVs, ↓reduceIte, reduceCtorEq, ↓reduceDIte, Nat.reduceLT, Nat.reduceEqDiff, Nat.reduceAdd, Nat.reduceSub, Nat.reduceMul, Nat.reduceLeDiff, Nat.reduceBEq, Nat.reduceBNe, Int.reduceNeg, Int.reduceAdd, Int.reduceSub, Int.reduceToNat, nilTest, shiftH, Blk.ren, V.ren, renL, initV, frameH, putL, frρ, dI, finN_ret, finN_normal, cutK_normal, cutK_ret, cutK_exit, w3, w4, w5, h2, List.getElem?_map, g1, g2, Option.map_some, Int.natCast_nonneg]
      refine ⟨by omega, by omega, ?_⟩
      refine dcall_flat (ds := cap.take f.2 ++ (dI (ys.getD (first + c1) 0) :: dI (ys.getD (first + (c1 + 1)) 0) :: cap.drop f.2)) (xports_two cap f.2 _ _ hC.1) (hC.2 _ _ (hMy _ _ g1) (hMy _ _ g2)) rfl ?_
      simp (maxSteps := 2000000) -implicitDefEqProofs only [zz, zE, evop, ev, ofVal, tget, tput, ok, V.isUndef, intBin, guardOf, initT, Ch.on, calleeOf, withArgs, told, xport, xports, tids, tidss, hget, hput, Blk.ice, freeze, V.cells, D.cells, V.isAgg, V.one, V.clo, clos, V.toD, loadD, structAt, eqCells, D.scalarEq, sliceOf, partsD, partsV, bound, isPtr, Blk.width, elems, lenOf, splice, D.over, resOf, resV, resVs, ↓reduceIte, reduceCtorEq, ↓reduceDIte, Nat.reduceLT, Nat.reduceEqDiff, Nat.reduceAdd, Nat.reduceSub, Nat.reduceMul, Nat.reduceLeDiff, Nat.reduceBEq, Nat.reduceBNe, Int.reduceNeg, Int.reduceAdd, Int.reduceSub, Int.reduceToNat, nilTest, shiftH, Blk.ren, V.ren, renL, initV, frameH, putL, frρ, dI, finN_ret, finN_normal, cutK_normal, cutK_ret, cutK_exit, h3, w3]
      have h2' : c1 < hi := by omega
      obtain ⟨ch, hch⟩ : ∃ ch, ch = c1 := ⟨_, rfl⟩
    case' inr.inr =>
      have hs := sift_go (lt := ltC c) (hi := hi) (first := first) (k := k) (ch := c1) (d := ys.toArray) (by omega) (.inr ⟨by rintro ⟨h, _⟩; omega, by omega⟩)
      simp (maxSteps := 2000000) -implicitDefEqProofs only [zz, zE, evop, ev, ofVal, tget, tput, ok, V.isUndef, intBin, guardOf, initT, Ch.on, calleeOf, withArgs, told, xport, xports, tids, tidss, hget, hput, Blk.ice, freeze, V.cells, D.cells, V.isAgg, V.one, V.clo, clos, V.toD, loadD, structAt, eqCells, D.scalarEq, sliceOf, partsD, partsV, bound, isPtr, Blk.width, elems, lenOf, splice, D.over, resOf, resV, resVs, ↓reduceIte, reduceCtorEq, ↓reduceDIte, Nat.reduceLT, Nat.reduceEqDiff, Nat.reduceAdd, Nat.reduceSub, Nat.reduceMul, Nat.reduceLeDiff, Nat.reduceBEq, Nat.reduceBNe, Int.reduceNeg, Int.reduceAdd, Int.reduceSub, Int.reduceToNat, nilTest, shiftH, Blk.ren, V.ren, renL, initV, frameH, putL, frρ, dI, finN_ret, finN_normal, cutK_normal, cutK_ret, cutK_exit, w1, w2, h1]
      refine wdraw_plan [⟨[], false, [21], [], false⟩, ⟨[0], false, [21], [], false⟩, ⟨[], false, [19, 20], [0, 1], false⟩, ⟨[0, 1, 2], true, [], [], false⟩, ⟨[0, 1, 2, 3], true, [], [], false⟩, ⟨[0, 1, 2, 3, 4], false, [25, 26, 27, 28, 29, 30, 31, 32, 33, 34, 35, 36, 37], [], false⟩, ⟨[0, 1, 2, 3, 4], false, [24, 26, 27, 28, 31, 32, 33, 34, 35, 36, 37], [5], false⟩, ⟨[0, 1, 2, 3, 4], false, [24, 25, 27, 31, 32, 33, 34, 35, 36, 37], [5, 6], false⟩, ⟨[0, 1, 2, 3, 4], false, [24, 25, 26, 31, 32, 33, 34, 35, 36, 37], [5, 6, 7], false⟩, ⟨[0, 1, 2, 3, 4, 7, 8], false, [24, 25, 31, 32, 33, 34, 35, 36, 37], [5, 6], false⟩, ⟨[0, 1, 2, 3, 4, 6, 7, 8, 9], false, [24, 31, 32, 33, 34, 35, 36, 37], [5], false⟩, ⟨[0, 1, 2, 3, 4, 6, 7, 8, 9, 10], false, [24, 31, 32, 33, 34, 35, 36, 37], [5], false⟩, ⟨[0, 1, 2, 3, 4], false, [24, 25, 26, 27, 28, 29, 30, 32, 33, 34, 35], [5, 6, 7, 8, 9, 10, 11], false⟩, ⟨[0, 1, 2, 3, 4], false, [24, 25, 26, 27, 28, 29, 30, 31, 33], [5, 6, 7, 8, 9, 10, 11, 12], false⟩, ⟨[0, 1, 2, 3, 4], false, [24, 25, 26, 27, 28, 29, 30, 31, 32], [5, 6, 7, 8, 9, 10, 11, 12, 13], false⟩, ⟨[0, 1, 2, 3, 4, 13, 14], false, [24, 25, 26, 27, 28, 29, 30, 31], [5, 6, 7, 8, 9, 10, 11, 12], false⟩, ⟨[0, 1, 2, 3, 4, 13, 14, 15], false, [24, 25, 26, 27, 28, 29, 30, 31], [5, 6, 7, 8, 9, 10, 11, 12], false⟩, ⟨[0, 1, 2, 3, 4, 12, 13, 14, 15, 16], false, [24, 25, 26, 27, 28, 29, 30], [5, 6, 7, 8, 9, 10, 11], false⟩, ⟨[0, 1, 2, 3, 4, 12, 13, 14, 15, 16, 17], false, [24, 25, 26, 27, 28, 29, 30], [5, 6, 7, 8, 9, 10, 11], false⟩, ⟨[0, 1, 2, 3, 4, 5, 6, 7, 8, 9, 10, 11, 12, 13, 14, 15, 16, 17, 18], false, [], [], false⟩, ⟨[0, 1, 2, 3, 4, 5, 6, 7, 8, 9, 10, 11, 12, 13, 14, 15, 16, 17, 18, 19], false, [], [], false⟩, ⟨[0, 1, 2, 3, 4, 5, 6, 7, 8, 9, 10, 11, 12, 13, 14, 15, 16, 17, 18, 19, 20], true, [], [], false⟩] (by decide) ?_
      simp (maxSteps := 2000000) -implicitDefEqProofs only [zz, zE, evop, ev, ofVal, tget, tput, ok, V.isUndef, intBin, guardOf, initT, Ch.on, calleeOf, withArgs, told, xport, xports, tids, tidss, hget, hput, Blk.ice, freeze, V.cells, D.cells, V.isAgg, V.one, V.clo, clos, V.toD, loadD, structAt, eqCells, D.scalarEq, sliceOf, partsD, partsV, bound, isPtr, Blk.width, elems, lenOf, splice, D.over, resOf, resV, resVs, ↓reduceIte, reduceCtorEq, ↓reduceDIte, Nat.reduceLT, Nat.reduceEqDiff, Nat.reduceAdd, Nat.reduceSub, Nat.reduceMul, Nat.reduceLeDiff, Nat.reduceBEq, Nat.reduceBNe, Int.reduceNeg, Int.reduceAdd, Int.reduceSub, Int.reduceToNat, nilTest, shiftH, Blk.ren, V.ren, renL, initV, frameH, putL, frρ, dI, finN_ret, finN_normal, cutK_normal, cutK_ret, cutK_exit, w3, w4, w5, h2]
      have h2' : c1 < hi := by omega
      obtain ⟨ch, hch⟩ : ∃ ch, ch = c1 := ⟨_, rfl⟩
    all_goals
      rw [← hch] at hs h2'
      rw [← hch]
      have hkc : k < ch := by omega
      clear h1 w1 w2 w3 w4 w5 hc1 hR
      have w6 : IntKind.i64.wrap ((first : Int) + (ch : Int)) = ((first + ch : Nat) : Int) := by rw [wrap_in (by omega)]; omega
      have w7 : IntKind.i64.wrap ((first : Int) + (k : Int)) = ((first + k : Nat) : Int) := by rw [wrap_in (by omega)]; omega
      have g1 := getD_some (l := ys) (i := first + k) (by omega)
      have g2 := getD_some (l := ys) (i := first + ch) (by omega)
      rw [tA_get, tA_get, tA_swp (by omega) (by omega)] at hs
      refine wdraw_plan [⟨[], false, [44, 45, 46, 47, 48, 49, 50, 51, 52, 53, 54, 55], [], false⟩, ⟨[], false, [43, 45, 46, 47, 50, 51, 52, 53, 54, 55], [0], false⟩, ⟨[], false, [43, 44, 46, 50, 51, 52, 53, 54, 55], [0, 1], false⟩, ⟨[], false, [43, 44, 45, 50, 51, 52, 53, 54, 55], [0, 1, 2], false⟩, ⟨[2, 3], false, [43, 44, 50, 51, 52, 53, 54, 55], [0, 1], false⟩, ⟨[1, 2, 3, 4], false, [43, 50, 51, 52, 53, 54, 55], [0], false⟩, ⟨[1, 2, 3, 4, 5], false, [43, 50, 51, 52, 53, 54, 55], [0], false⟩, ⟨[], false, [43, 44, 45, 46, 47, 48, 49, 51, 52, 53], [0, 1, 2, 3, 4, 5, 6], false⟩, ⟨[], false, [43, 44, 45, 46, 47, 48, 49, 50, 52], [0, 1, 2, 3, 4, 5, 6, 7], false⟩, ⟨[], false, [43, 44, 45, 46, 47, 48, 49, 50, 51], [0, 1, 2, 3, 4, 5, 6, 7, 8], false⟩, ⟨[8, 9], false, [43, 44, 45, 46, 47, 48, 49, 50], [0, 1, 2, 3, 4, 5, 6, 7], false⟩, ⟨[7, 8, 9, 10], false, [43, 44, 45, 46, 47, 48, 49], [0, 1, 2, 3, 4, 5, 6], false⟩, ⟨[7, 8, 9, 10, 11], false, [43, 44, 45, 46, 47, 48, 49], [0, 1, 2, 3, 4, 5, 6], false⟩, ⟨[0, 1, 2, 3, 4, 5, 6, 7, 8, 9, 10, 11, 12], true, [], [], false⟩, ⟨[0, 1, 2, 3, 4, 5, 6, 7, 8, 9, 10, 11, 12, 13], true, [], [], false⟩, ⟨[0, 1, 2, 3, 4, 5, 6, 7, 8, 9, 10, 11, 12, 13, 14], true, [], [], false⟩] (by decide) ?_
      simp (maxSteps := 2000000) -implicitDefEqProofs only [zz, zE, evop, ev, ofVal, tget, tput, ok, V.isUndef, intBin, guardOf, initT, Ch.on, calleeOf, withArgs, told, xport, xports, tids, tidss, hget, hput, Blk.ice, freeze, V.cells, D.cells, V.isAgg, V.one, V.clo, clos, V.toD, loadD, structAt, eqCells, D.scalarEq, sliceOf, partsD, partsV, bound, isPtr, Blk.width, elems, lenOf, splice, D.over, resOf, resV, resVs, ↓reduceIte, reduceCtorEq, ↓reduceDIte, Nat.reduceLT, Nat.reduceEqDiff, Nat.reduceAdd, Nat.reduceSub, Nat.reduceMul, Nat.reduceLeDiff, Nat.reduceBEq, Nat.reduceBNe, Int.reduceNeg, Int.reduceAdd, Int.reduceSub, Int.reduceToNat, nilTest, shiftH, Blk.ren, V.ren, renL, initV, frameH, putL, frρ, dI, finN_ret, finN_normal, cutK_normal, cutK_ret, cutK_exit, w6, w7, List.getElem?_map, g1, g2, Option.map_some, Int.natCast_nonneg]
      refine ⟨by omega, by omega, ?_⟩
      refine acall_flat (ds := cap.take f.2 ++ (dI (ys.getD (first + k) 0) :: dI (ys.getD (first + ch) 0) :: cap.drop f.2)) (xports_two cap f.2 _ _ hC.1) (hC.2 _ _ (hMy _ _ g1) (hMy _ _ g2)) rfl ?_
      by_cases h4 : c (ys.getD (first + k) 0) (ys.getD (first + ch) 0) < 0
      · have g3 : (ys.set (first + k) (ys.getD (first + ch) 0))[first + ch]? = some ((ys.set (first + k) (ys.getD (first + ch) 0)).getD (first + ch) 0) := getD_some (by simp; omega)
        have g4 : (ys.set (first + k) (ys.getD (first + ch) 0)).set (first + ch) (ys.getD (first + k) 0) = sw ys (first + k) (first + ch) := rfl
        simp (maxSteps := 2000000) -implicitDefEqProofs only [zz, zE, evop, ev, ofVal, tget, tput, ok, V.isUndef, intBin, guardOf, initT, Ch.on, calleeOf, withArgs, told, xport, xports, tids, tidss, hget, hput, Blk.ice, freeze, V.cells, D.cells, V.isAgg, V.one, V.clo, clos, V.toD, loadD, structAt, eqCells, D.scalarEq, sliceOf, partsD, partsV, bound, isPtr, Blk.width, elems, lenOf, splice, D.over, resOf, resV, resVs, ↓reduceIte, reduceCtorEq, ↓reduceDIte, Nat.reduceLT, Nat.reduceEqDiff, Nat.reduceAdd, Nat.reduceSub, Nat.reduceMul, Nat.reduceLeDiff, Nat.reduceBEq, Nat.reduceBNe, Int.reduceNeg, Int.reduceAdd, Int.reduceSub, Int.reduceToNat, nilTest, shiftH, Blk.ren, V.ren, renL, initV, frameH, putL, frρ, dI, finN_ret, finN_normal, cutK_normal, cutK_ret, cutK_exit, h4]
        refine wdraw_plan [⟨[], false, [60, 61, 62, 63, 64, 65, 66, 67, 68, 69, 70, 71, 72, 73, 74, 75, 76, 77, 78], [], false⟩, ⟨[], false, [59, 61, 63, 64, 65, 66, 67, 68, 69, 70, 71, 72, 73, 74, 75, 76, 77, 78], [0], false⟩, ⟨[], false, [59, 60, 63, 64, 65, 66, 67, 68, 69, 70, 71, 72, 73, 74, 75, 76, 77, 78], [0, 1], false⟩, ⟨[1, 2], false, [59, 63, 64, 65, 66, 67, 68, 69, 70, 71, 72, 73, 74, 75, 76, 77, 78], [0], false⟩, ⟨[], false, [59, 60, 61, 62, 63, 64, 65, 66, 67, 68, 69, 70, 71, 72, 73, 74, 75, 76, 77, 78, 79, 80], [0, 1, 2, 3], true⟩, ⟨[], false, [59, 60, 61, 62, 63, 64, 65, 66, 67, 68, 69, 70, 71, 72, 73, 74, 75, 76, 77, 78, 79, 80], [0, 1, 2, 3, 4], true⟩, ⟨[], false, [59, 60, 61, 62, 63, 64, 65, 66, 67, 68, 69, 70, 71, 72, 73, 74, 75, 76, 77, 78, 79, 80], [0, 1, 2, 3, 4, 5], true⟩, ⟨[5, 6], false, [59, 60, 61, 62, 63, 66, 67, 68, 69, 70, 71, 72, 73, 74, 75, 76, 77, 78, 79, 80], [0, 1, 2, 3, 4], true⟩, ⟨[], false, [59, 60, 61, 62, 63, 64, 65, 66, 68, 69, 70, 73, 74, 75, 76, 77, 78], [0, 1, 2, 3, 4, 5, 6, 7], false⟩, ⟨[], false, [59, 60, 61, 62, 63, 64, 65, 66, 67, 69, 73, 74, 75, 76, 77, 78], [0, 1, 2, 3, 4, 5, 6, 7, 8], false⟩, ⟨[], false, [59, 60, 61, 62, 63, 64, 65, 66, 67, 68, 73, 74, 75, 76, 77, 78], [0, 1, 2, 3, 4, 5, 6, 7, 8, 9], false⟩, ⟨[9, 10], false, [59, 60, 61, 62, 63, 64, 65, 66, 67, 73, 74, 75, 76, 77, 78], [0, 1, 2, 3, 4, 5, 6, 7, 8], false⟩, ⟨[8, 9, 10, 11], false, [59, 60, 61, 62, 63, 64, 65, 66, 73, 74, 75, 76, 77, 78], [0, 1, 2, 3, 4, 5, 6, 7], false⟩, ⟨[8, 9, 10, 11, 12], false, [59, 60, 61, 62, 63, 64, 65, 66, 73, 74, 75, 76, 77, 78], [0, 1, 2, 3, 4, 5, 6, 7], false⟩, ⟨[], false, [59, 60, 61, 62, 63, 64, 65, 66, 67, 68, 69, 70, 71, 72, 74, 75, 76], [0, 1, 2, 3, 4, 5, 6, 7, 8, 9, 10, 11, 12, 13], false⟩, ⟨[], false, [59, 60, 61, 62, 63, 64, 65, 66, 67, 68, 69, 70, 71, 72, 73, 75], [0, 1, 2, 3, 4, 5, 6, 7, 8, 9, 10, 11, 12, 13, 14], false⟩, ⟨[], false, [59, 60, 61, 62, 63, 64, 65, 66, 67, 68, 69, 70, 71, 72, 73, 74], [0, 1, 2, 3, 4, 5, 6, 7, 8, 9, 10, 11, 12, 13, 14, 15], false⟩, ⟨[15, 16], false, [59, 60, 61, 62, 63, 64, 65, 66, 67, 68, 69, 70, 71, 72, 73], [0, 1, 2, 3, 4, 5, 6, 7, 8, 9, 10, 11, 12, 13, 14], false⟩, ⟨[14, 15, 16, 17], false, [59, 60, 61, 62, 63, 64, 65, 66, 67, 68, 69, 70, 71, 72], [0, 1, 2, 3, 4, 5, 6, 7, 8, 9, 10, 11, 12, 13], false⟩, ⟨[14, 15, 16, 17, 18], false, [59, 60, 61, 62, 63, 64, 65, 66, 67, 68, 69, 70, 71, 72], [0, 1, 2, 3, 4, 5, 6, 7, 8, 9, 10, 11, 12, 13], false⟩, ⟨[0, 1, 2, 3, 8, 9, 10, 11, 12, 13, 14, 15, 16, 17, 18, 19], false, [63, 64, 65, 66], [4, 5, 6, 7], false⟩, ⟨[0, 1, 2, 3, 8, 9, 10, 11, 12, 13, 14, 15, 16, 17, 18, 19, 20], true, [63, 64, 65, 66], [], false⟩, ⟨[0, 1, 2, 3, 4, 5, 6, 7, 8, 9, 10, 11, 12, 13, 14, 15, 16, 17, 18, 19, 20, 21], true, [], [], false⟩, ⟨[0, 1, 2, 3, 4, 5, 6, 7, 8, 9, 10, 11, 12, 13, 14, 15, 16, 17, 18, 19, 20, 21, 22], true, [], [], false⟩] (by decide) ?_
        simp (maxSteps := 2000000) -implicitDefEqProofs only [zz, zE, evop, ev, ofVal, tget, tput, ok, V.isUndef, intBin, guardOf, initT, Ch.on, calleeOf, withArgs, told, xport, xports, tids, tidss, hget, hput, Blk.ice, freeze, V.cells, D.cells, V.isAgg, V.one, V.clo, clos, V.toD, loadD, structAt, eqCells, D.scalarEq, sliceOf, partsD, partsV, bound, isPtr, Blk.width, elems, lenOf, splice, D.over, resOf, resV, resVs, ↓reduceIte, reduceCtorEq, ↓reduceDIte, Nat.reduceLT, Nat.reduceEqDiff, Nat.reduceAdd, Nat.reduceSub, Nat.reduceMul, Nat.reduceLeDiff, Nat.reduceBEq, Nat.reduceBNe, Int.reduceNeg, Int.reduceAdd, Int.reduceSub, Int.reduceToNat, nilTest, shiftH, Blk.ren, V.ren, renL, initV, frameH, putL, frρ, dI, finN_ret, finN_normal, cutK_normal, cutK_ret, cutK_exit, w6, w7, List.getElem?_map, g1, g2, g3, Option.map_some, Int.natCast_nonneg, set_dI, g4]
        refine ⟨by omega, by omega, by omega, by omega, (ch, sw ys (first + k) (first + ch)), ⟨by simp only; omega, by rw [sw_len]; exact hyl, (sw_perm ys (by omega) (by omega)).trans hp, ?_⟩, by simp only; omega, Weak.trimsM 1 (by simp) rfl (by simp [tget, V.lower, lowerL, lowerL_ds]) (by simp [Blk.lower])⟩
        rw [hs, if_neg (by rw [ltC_t h4]; decide)]
      · simp (maxSteps := 2000000) -implicitDefEqProofs only [zz, zE, evop, ev, ofVal, tget, tput, ok, V.isUndef, intBin, guardOf, initT, Ch.on, calleeOf, withArgs, told, xport, xports, tids, tidss, hget, hput, Blk.ice, freeze, V.cells, D.cells, V.isAgg, V.one, V.clo, clos, V.toD, loadD, structAt, eqCells, D.scalarEq, sliceOf, partsD, partsV, bound, isPtr, Blk.width, elems, lenOf, splice, D.over, resOf, resV, resVs, ↓reduceIte, reduceCtorEq, ↓reduceDIte, Nat.reduceLT, Nat.reduceEqDiff, Nat.reduceAdd, Nat.reduceSub, Nat.reduceMul, Nat.reduceLeDiff, Nat.reduceBEq, Nat.reduceBNe, Int.reduceNeg, Int.reduceAdd, Int.reduceSub, Int.reduceToNat, nilTest, shiftH, Blk.ren, V.ren, renL, initV, frameH, putL, frρ, dI, finN_ret, finN_normal, cutK_normal, cutK_ret, cutK_exit, h4]
        exact ⟨_, _, ⟨ys, rfl, rfl, by rw [hs, if_pos (by rw [ltC_f h4]; decide)]⟩, Weak.trimsM 1 (by simp) rfl (by simp [tget, V.lower, lowerL, lowerL_ds]) (by simp [Blk.lower])⟩
end

theorem sift_size {lt : Int → Int → Bool} {hi first : Nat} : ∀ (n k : Nat) (d : Array Int), hi - k = n → first + hi ≤ d.size → (Sort.siftDown lt hi first k d).size = d.size ∧ (Sort.siftDown lt hi first k d).toList.Perm d.toList := by
  intro n
  induction n using Nat.strongRecOn with
  | _ n ih =>
    intro k d hn hb
    by_cases h : 2 * k + 1 < hi
    · obtain ⟨ch, hc, hlt⟩ : ∃ ch, ((2 * k + 2 < hi ∧ lt d[first + (2 * k + 1)]! d[first + (2 * k + 2)]! = true ∧ ch = 2 * k + 2) ∨ (¬ (2 * k + 2 < hi ∧ lt d[first + (2 * k + 1)]! d[first + (2 * k + 2)]! = true) ∧ ch = 2 * k + 1)) ∧ k < ch ∧ ch < hi := by
        by_cases h2 : 2 * k + 2 < hi ∧ lt d[first + (2 * k + 1)]! d[first + (2 * k + 2)]! = true
        · exact ⟨_, .inl ⟨h2.1, h2.2, rfl⟩, by omega, h2.1⟩
        · exact ⟨_, .inr ⟨h2, rfl⟩, by omega, h⟩
      rw [sift_go h hc]
      split
      · exact ⟨rfl, .refl _⟩
      · have hs : ∀ i j, (Sort.swp d i j).size = d.size := fun i j => by simp [Sort.swp]
        obtain ⟨e1, e2⟩ := ih (hi - ch) (by omega) ch (Sort.swp d (first + k) (first + ch)) rfl (by rw [hs]; exact hb)
        refine ⟨e1.trans (hs _ _), e2.trans ?_⟩
        have := tA_swp (ys := d.toList) (i := first + k) (j := first + ch) (by simp; omega) (by simp; omega)
        rw [Array.toArray_toList] at this
        rw [this]
        exact sw_perm _ (by simp; omega) (by simp; omega)
    · rw [sift_stop h]; exact ⟨rfl, .refl _⟩


end Go.Proofs.Ythpapgbpmkgfeaa.AM

/- Sorting parts: the heap sort, as the kit's plain one. -/
set_option linter.all false
set_option maxRecDepth 100000
set_option maxHeartbeats 4000000
namespace Go.Proofs.Ythpapgbpmkgfeaa.AM
open Go Go.RowKit

section
variable {f : Nat × Nat} {cap : List D} {c : Int → Int → Int} {M : Int → Prop} (hC : CmpC f cap c M) (zs : List Int) (hM : ∀ z ∈ zs, M z) (hl : zs.length ≤ 1000000)
include hC hM hl

theorem n_heapSort (a b : Nat) (hab : a ≤ b) (hb : b ≤ zs.length) :
    NSpec Try.prog 85 [.own 0 0 zs.length, .d (.int .i64 a), .d (.int .i64 b), .func f (cap.map V.d)] [.dat false 1 (zs.map dI)]
      (OutL (fun zs' => zs' = (Sort.heapSort (ltC c) zs.toArray a b).toList)) := by
  refine NSpec.of_awp envOf_ok hmix Try.func85 rfl (fun args w => Try.call85 args w) (by simp [Try.f85]) ?_
  simp only [Try.f85]
  simp (maxSteps := 2000000) -implicitDefEqProofs only [zz, zE, evop, ev, ofVal, tget, tput, ok, V.isUndef, intBin, guardOf, initT, Ch.on, calleeOf, withArgs, told, xport, xports, tids, tidss, hget, hput, Blk.ice, freeze, V.cells, D.cells, V.isAgg, V.one, V.clo, clos, V.toD, loadD, structAt, eqCells, D.scalarEq, sliceOf, partsD, partsV, bound, isPtr, Blk.width, elems, lenOf, splice, D.over, resOf, resV, resVs, ↓reduceIte, reduceCtorEq, ↓reduceDIte, Nat.reduceLT, Nat.reduceEqDiff, Nat.reduceAdd, Nat.reduceSub, Nat.reduceMul, Nat.reduceLeDiff, Nat.reduceBEq, Nat.reduceBNe, Int.reduceNeg, Int.reduceAdd, Int.reduceSub, Int.reduceToNat, nilTest, shiftH, Blk.ren, V.ren, renL, initV, frameH, putL, frρ, dI, finN_ret, finN_normal, cutK_normal, cutK_ret, cutK_exit]
  obtain ⟨hi, hhi⟩ : ∃ hi, hi = b - a := ⟨_, rfl⟩
  obtain ⟨q, hq⟩ : ∃ q, q = (hi - 1) / 2 := ⟨_, rfl⟩
  have w1 : IntKind.i64.wrap ((b : Int) - (a : Int)) = (hi : Int) := by rw [wrap_in (by omega)]; omega
  have w2 : IntKind.i64.wrap ((hi : Int) - 1) = (hi : Int) - 1 := by rw [wrap_in (by omega)]
  have w3 : ((hi : Int) - 1).tdiv 2 = ((q + 1 : Nat) : Int) - 1 := by
    by_cases h : hi = 0
    · subst h; rw [hq]; rfl
    · rw [Int.tdiv_eq_ediv_of_nonneg (by omega)]; omega
  have w4 : IntKind.i64.wrap (((q + 1 : Nat) : Int) - 1) = ((q + 1 : Nat) : Int) - 1 := by rw [wrap_in (by omega)]
  have hR : Sort.heapSort (ltC c) zs.toArray a b = Sort.heapPop (ltC c) a hi (Sort.heapBuild (ltC c) hi a (q + 1) zs.toArray) := by
    unfold Sort.heapSort; rw [hq, hhi]
  rw [hR]
  simp only [w1, w2, w3, w4]
  refine ⟨by omega, ?_⟩
  obtain ⟨q1, hq1⟩ : ∃ q1, q1 = q + 1 := ⟨_, rfl⟩
  rw [← hq1]
  refine wloop_ind (σ := Nat × List Int) (fun s => s.1) (fun s => [(11, .d (.int .i64 ((s.1 : Int) - 1))), (0, .own 0 0 zs.length), (10, .d (.int .i64 hi)), (8, .d (.int .i64 a)), (9, .d (.int .i64 0)), (3, .func f (cap.map V.d))]) (fun s => [.dat false 1 (s.2.map dI)]) (fun s => s.1 ≤ 1000000 ∧ s.2.length = zs.length ∧ s.2.Perm zs ∧ Sort.heapBuild (ltC c) hi a s.1 s.2.toArray = Sort.heapBuild (ltC c) hi a q1 zs.toArray) (q1, zs) ⟨by omega, rfl, .refl _, rfl⟩ (Weak.sub (by simp [tget])) ?_
  rintro ⟨k, ys⟩ ⟨hk, hyl, hp, hB⟩
  simp only at hk hyl hp hB
  rw [← hB]
  have hMy : ∀ v ∈ ys, M v := fun v h => hM v (hp.mem_iff.1 h)
  cases k with
  | succ k =>
    have e1 : (((k + 1 : Nat) : Int) - 1) = (k : Int) := by omega
    have e2 : IntKind.i64.wrap ((k : Int) - 1) = (k : Int) - 1 := by rw [wrap_in (by omega)]
    simp only [e1]
    simp (maxSteps := 2000000) -implicitDefEqProofs only [zz, zE, evop, ev, ofVal, tget, tput, ok, V.isUndef, intBin, guardOf, initT, Ch.on, calleeOf, withArgs, told, xport, xports, tids, tidss, hget, hput, Blk.ice, freeze, V.cells, D.cells, V.isAgg, V.one, V.clo, clos, V.toD, loadD, structAt, eqCells, D.scalarEq, sliceOf, partsD, partsV, bound, isPtr, Blk.width, elems, lenOf, splice, D.over, resOf, resV, resVs, ↓reduceIte, reduceCtorEq, ↓reduceDIte, Nat.reduceLT, Nat.reduceEqDiff, Nat.reduceAdd, Nat.reduceSub, Nat.reduceMul, Nat.reduceLeDiff, Nat.reduceBEq, Nat.reduceBNe, Int.reduceNeg, Int.reduceAdd, Int.reduceSub, Int.reduceToNat, nilTest, shiftH, Blk.ren, V.ren, renL, initV, frameH, putL, frρ, dI, finN_ret, finN_normal, cutK_normal, cutK_ret, cutK_exit, Int.natCast_nonneg]
    have hs := n_sift hC ys hMy (by omega) k hi a (by omega) (by omega)
    rw [hyl] at hs
    refine acall_refN [0] (hs) (by first | rfl | simp [renL, V.ren, frρ, renL_ds]) (by simp) rfl (by first | (rintro _ _ ⟨_, rfl, rfl, _⟩; simp; done) | (rintro _ _ ⟨_, _, rfl, rfl, _⟩; simp; done) | (rintro _ _ ⟨_, _, _, rfl, rfl, _⟩; simp; done) | (rintro _ _ ⟨_, _, _, rfl, rfl⟩; simp; done)) (by simp) (by intro j hj; match j, hj with | 0, _ => exact ⟨by simp [hget], rfl⟩) ?_
    rintro _ _ ⟨ys', rfl, rfl, he⟩
    simp (maxSteps := 2000000) -implicitDefEqProofs only [zz, zE, evop, ev, ofVal, tget, tput, ok, V.isUndef, intBin, guardOf, initT, Ch.on, calleeOf, withArgs, told, xport, xports, tids, tidss, hget, hput, Blk.ice, freeze, V.cells, D.cells, V.isAgg, V.one, V.clo, clos, V.toD, loadD, structAt, eqCells, D.scalarEq, sliceOf, partsD, partsV, bound, isPtr, Blk.width, elems, lenOf, splice, D.over, resOf, resV, resVs, ↓reduceIte, reduceCtorEq, ↓reduceDIte, Nat.reduceLT, Nat.reduceEqDiff, Nat.reduceAdd, Nat.reduceSub, Nat.reduceMul, Nat.reduceLeDiff, Nat.reduceBEq, Nat.reduceBNe, Int.reduceNeg, Int.reduceAdd, Int.reduceSub, Int.reduceToNat, nilTest, shiftH, Blk.ren, V.ren, renL, initV, frameH, putL, frρ, dI, finN_ret, finN_normal, cutK_normal, cutK_ret, cutK_exit, e2]
    obtain ⟨s1, s2⟩ := sift_size (lt := ltC c) (hi := hi) (first := a) _ k ys.toArray rfl (by simp; omega)
    refine ⟨(k, ys'), ⟨by simp only; omega, ?_, ?_, ?_⟩, by simp only; omega, Weak.trimsM 1 (by simp) rfl (by simp [tget, V.lower, lowerL, lowerL_ds]) (by simp [Blk.lower])⟩
    · simp only [he]; rw [Array.length_toList, s1]; simpa using hyl
    · simp only [he]; exact s2.trans (by simpa using hp)
    · simp only [he, Array.toArray_toList]; rfl
  | zero =>
    simp only [Sort.heapBuild] at hB ⊢
    have e1 : (((0 : Nat) : Int) - 1) = -1 := rfl
    simp only [e1]
    simp (maxSteps := 2000000) -implicitDefEqProofs only [zz, zE, evop, ev, ofVal, tget, tput, ok, V.isUndef, intBin, guardOf, initT, Ch.on, calleeOf, withArgs, told, xport, xports, tids, tidss, hget, hput, Blk.ice, freeze, V.cells, D.cells, V.isAgg, V.one, V.clo, clos, V.toD, loadD, structAt, eqCells, D.scalarEq, sliceOf, partsD, partsV, bound, isPtr, Blk.width, elems, lenOf, splice, D.over, resOf, resV, resVs, ↓reduceIte, reduceCtorEq, ↓reduceDIte, Nat.reduceLT, Nat.reduceEqDiff, Nat.reduceAdd, Nat.reduceSub, Nat.reduceMul, Nat.reduceLeDiff, Nat.reduceBEq, Nat.reduceBNe, Int.reduceNeg, Int.reduceAdd, Int.reduceSub, Int.reduceToNat, nilTest, shiftH, Blk.ren, V.ren, renL, initV, frameH, putL, frρ, dI, finN_ret, finN_normal, cutK_normal, cutK_ret, cutK_exit, w2]
    obtain ⟨h1, hh1⟩ : ∃ h1, h1 = hi := ⟨_, rfl⟩
    refine wloop_ind (σ := Nat × List Int) (fun s => s.1) (fun s => [(12, .d (.int .i64 ((s.1 : Int) - 1))), (0, .own 0 0 zs.length), (8, .d (.int .i64 a)), (9, .d (.int .i64 0)), (3, .func f (cap.map V.d))]) (fun s => [.dat false 1 (s.2.map dI)]) (fun s => s.1 ≤ hi ∧ s.2.length = zs.length ∧ s.2.Perm zs ∧ Sort.heapPop (ltC c) a s.1 s.2.toArray = Sort.heapPop (ltC c) a hi ys.toArray) (hi, ys) ⟨by omega, hyl, hp, rfl⟩ (Weak.sub (by simp [tget])) ?_
    rintro ⟨k, us⟩ ⟨hk, hul, hq2, hB2⟩
    simp only at hk hul hq2 hB2
    rw [← hB2]
    have hMu : ∀ v ∈ us, M v := fun v h => hM v (hq2.mem_iff.1 h)
    cases k with
    | succ k =>
      have e1 : (((k + 1 : Nat) : Int) - 1) = (k : Int) := by omega
      have e2 : IntKind.i64.wrap ((k : Int) - 1) = (k : Int) - 1 := by rw [wrap_in (by omega)]
      have e3 : IntKind.i64.wrap ((a : Int) + (k : Int)) = ((a + k : Nat) : Int) := by rw [wrap_in (by omega)]; omega
      have g1 := getD_some (l := us) (i := a) (by omega)
      have g2 := getD_some (l := us) (i := a + k) (by omega)
      have g3 : (us.set a (us.getD (a + k) 0))[a + k]? = some ((us.set a (us.getD (a + k) 0)).getD (a + k) 0) := getD_some (by simp; omega)
      have g4 : (us.set a (us.getD (a + k) 0)).set (a + k) (us.getD a 0) = sw us a (a + k) := rfl
      simp only [e1]
      simp (maxSteps := 2000000) -implicitDefEqProofs only [zz, zE, evop, ev, ofVal, tget, tput, ok, V.isUndef, intBin, guardOf, initT, Ch.on, calleeOf, withArgs, told, xport, xports, tids, tidss, hget, hput, Blk.ice, freeze, V.cells, D.cells, V.isAgg, V.one, V.clo, clos, V.toD, loadD, structAt, eqCells, D.scalarEq, sliceOf, partsD, partsV, bound, isPtr, Blk.width, elems, lenOf, splice, D.over, resOf, resV, resVs, ↓reduceIte, reduceCtorEq, ↓reduceDIte, Nat.reduceLT, Nat.reduceEqDiff, Nat.reduceAdd, Nat.reduceSub, Nat.reduceMul, Nat.reduceLeDiff, Nat.reduceBEq, Nat.reduceBNe, Int.reduceNeg, Int.reduceAdd, Int.reduceSub, Int.reduceToNat, nilTest, shiftH, Blk.ren, V.ren, renL, initV, frameH, putL, frρ, dI, finN_ret, finN_normal, cutK_normal, cutK_ret, cutK_exit, Int.natCast_nonneg]
      refine wdraw_plan [⟨[], false, [37, 38, 39, 40, 41, 42, 43, 44, 45, 46, 47, 48, 49, 50, 51], [], false⟩, ⟨[], false, [36, 38, 39, 40, 41, 42, 43, 44, 45, 46, 47, 48, 49, 50, 51], [0], false⟩, ⟨[], false, [36, 37, 38, 39, 40, 41, 42, 43, 44, 45, 46, 47, 48, 49, 50, 51, 52, 53], [0, 1], true⟩, ⟨[], false, [36, 37, 38, 39, 40, 41, 42, 43, 44, 45, 46, 47, 48, 49, 50, 51, 52, 53], [0, 1, 2], true⟩, ⟨[], false, [36, 37, 38, 39, 40, 41, 42, 43, 44, 45, 46, 47, 48, 49, 50, 51, 52, 53], [0, 1, 2, 3], true⟩, ⟨[3, 4], false, [36, 37, 38, 41, 42, 43, 44, 45, 46, 47, 48, 49, 50, 51, 52, 53], [0, 1, 2], true⟩, ⟨[], false, [36, 37, 38, 39, 40, 41, 43, 44, 45, 48, 49, 50, 51], [0, 1, 2, 3, 4, 5], false⟩, ⟨[], false, [36, 37, 38, 39, 40, 41, 42, 44, 48, 49, 50, 51], [0, 1, 2, 3, 4, 5, 6], false⟩, ⟨[], false, [36, 37, 38, 39, 40, 41, 42, 43, 48, 49, 50, 51], [0, 1, 2, 3, 4, 5, 6, 7], false⟩, ⟨[7, 8], false, [36, 37, 38, 39, 40, 41, 42, 48, 49, 50, 51], [0, 1, 2, 3, 4, 5, 6], false⟩, ⟨[6, 7, 8, 9], false, [36, 37, 38, 39, 40, 41, 48, 49, 50, 51], [0, 1, 2, 3, 4, 5], false⟩, ⟨[6, 7, 8, 9, 10], false, [36, 37, 38, 39, 40, 41, 48, 49, 50, 51], [0, 1, 2, 3, 4, 5], false⟩, ⟨[], false, [36, 37, 38, 39, 40, 41, 42, 43, 44, 45, 46, 47, 49], [0, 1, 2, 3, 4, 5, 6, 7, 8, 9, 10, 11], false⟩, ⟨[], false, [36, 37, 38, 39, 40, 41, 42, 43, 44, 45, 46, 47, 48], [0, 1, 2, 3, 4, 5, 6, 7, 8, 9, 10, 11, 12], false⟩, ⟨[12, 13], false, [36, 37, 38, 39, 40, 41, 42, 43, 44, 45, 46, 47], [0, 1, 2, 3, 4, 5, 6, 7, 8, 9, 10, 11], false⟩, ⟨[12, 13, 14], false, [36, 37, 38, 39, 40, 41, 42, 43, 44, 45, 46, 47], [0, 1, 2, 3, 4, 5, 6, 7, 8, 9, 10, 11], false⟩, ⟨[0, 1, 6, 7, 8, 9, 10, 11, 12, 13, 14, 15], false, [38, 39, 40, 41], [2, 3, 4, 5], false⟩, ⟨[0, 1, 6, 7, 8, 9, 10, 11, 12, 13, 14, 15, 16], true, [38, 39, 40, 41], [], false⟩, ⟨[0, 1, 2, 3, 4, 5, 6, 7, 8, 9, 10, 11, 12, 13, 14, 15, 16, 17], true, [], [], false⟩, ⟨[0, 1, 2, 3, 4, 5, 6, 7, 8, 9, 10, 11, 12, 13, 14, 15, 16, 17, 18], true, [], [], false⟩] (by decide) ?_
      simp (maxSteps := 2000000) -implicitDefEqProofs only [zz, zE, evop, ev, ofVal, tget, tput, ok, V.isUndef, intBin, guardOf, initT, Ch.on, calleeOf, withArgs, told, xport, xports, tids, tidss, hget, hput, Blk.ice, freeze, V.cells, D.cells, V.isAgg, V.one, V.clo, clos, V.toD, loadD, structAt, eqCells, D.scalarEq, sliceOf, partsD, partsV, bound, isPtr, Blk.width, elems, lenOf, splice, D.over, resOf, resV, resVs, ↓reduceIte, reduceCtorEq, ↓reduceDIte, Nat.reduceLT, Nat.reduceEqDiff, Nat.reduceAdd, Nat.reduceSub, Nat.reduceMul, Nat.reduceLeDiff, Nat.reduceBEq, Nat.reduceBNe, Int.reduceNeg, Int.reduceAdd, Int.reduceSub, Int.reduceToNat, nilTest, shiftH, Blk.ren, V.ren, renL, initV, frameH, putL, frρ, dI, finN_ret, finN_normal, cutK_normal, cutK_ret, cutK_exit, e3, List.getElem?_map, g1, g2, g3, Option.map_some, Int.natCast_nonneg, set_dI, g4]
      refine ⟨by omega, by omega, by omega, by omega, ?_⟩
      have hsp := (sw_perm us (i := a) (j := a + k) (by omega) (by omega))
      have hs := n_sift hC (sw us a (a + k)) (fun v h => hMu v (hsp.mem_iff.1 h)) (by rw [sw_len]; omega) 0 k a (by omega) (by rw [sw_len]; omega)
      rw [sw_len, hul] at hs
      refine acall_refN [0] (hs) (by first | rfl | simp [renL, V.ren, frρ, renL_ds]) (by simp) rfl (by first | (rintro _ _ ⟨_, rfl, rfl, _⟩; simp; done) | (rintro _ _ ⟨_, _, rfl, rfl, _⟩; simp; done) | (rintro _ _ ⟨_, _, _, rfl, rfl, _⟩; simp; done) | (rintro _ _ ⟨_, _, _, rfl, rfl⟩; simp; done)) (by simp) (by intro j hj; match j, hj with | 0, _ => exact ⟨by simp [hget], rfl⟩) ?_
      rintro _ _ ⟨us', rfl, rfl, he⟩
      simp (maxSteps := 2000000) -implicitDefEqProofs only [zz, zE, evop, ev, ofVal, tget, tput, ok, V.isUndef, intBin, guardOf, initT, Ch.on, calleeOf, withArgs, told, xport, xports, tids, tidss, hget, hput, Blk.ice, freeze, V.cells, D.cells, V.isAgg, V.one, V.clo, clos, V.toD, loadD, structAt, eqCells, D.scalarEq, sliceOf, partsD, partsV, bound, isPtr, Blk.width, elems, lenOf, splice, D.over, resOf, resV, resVs, ↓reduceIte, reduceCtorEq, ↓reduceDIte, Nat.reduceLT, Nat.reduceEqDiff, Nat.reduceAdd, Nat.reduceSub, Nat.reduceMul, Nat.reduceLeDiff, Nat.reduceBEq, Nat.reduceBNe, Int.reduceNeg, Int.reduceAdd, Int.reduceSub, Int.reduceToNat, nilTest, shiftH, Blk.ren, V.ren, renL, initV, frameH, putL, frρ, dI, finN_ret, finN_normal, cutK_normal, cutK_ret, cutK_exit, e2]
      obtain ⟨s1, s2⟩ := sift_size (lt := ltC c) (hi := k) (first := a) _ 0 (sw us a (a + k)).toArray rfl (by simp [sw_len]; omega)
      refine ⟨(k, us'), ⟨by simp only; omega, ?_, ?_, ?_⟩, by simp only; omega, Weak.trimsM 1 (by simp) rfl (by simp [tget, V.lower, lowerL, lowerL_ds]) (by simp [Blk.lower])⟩
      · simp only [he]; rw [Array.length_toList, s1]; simpa [sw_len] using hul
      · simp only [he]; exact s2.trans (hsp.trans hq2)
      · simp only [he, Array.toArray_toList, Sort.heapPop]; rw [tA_swp (by omega) (by omega)]
    | zero =>
      have e1 : (((0 : Nat) : Int) - 1) = -1 := rfl
      simp only [e1]
      simp (maxSteps := 2000000) -implicitDefEqProofs only [zz, zE, evop, ev, ofVal, tget, tput, ok, V.isUndef, intBin, guardOf, initT, Ch.on, calleeOf, withArgs, told, xport, xports, tids, tidss, hget, hput, Blk.ice, freeze, V.cells, D.cells, V.isAgg, V.one, V.clo, clos, V.toD, loadD, structAt, eqCells, D.scalarEq, sliceOf, partsD, partsV, bound, isPtr, Blk.width, elems, lenOf, splice, D.over, resOf, resV, resVs, ↓reduceIte, reduceCtorEq, ↓reduceDIte, Nat.reduceLT, Nat.reduceEqDiff, Nat.reduceAdd, Nat.reduceSub, Nat.reduceMul, Nat.reduceLeDiff, Nat.reduceBEq, Nat.reduceBNe, Int.reduceNeg, Int.reduceAdd, Int.reduceSub, Int.reduceToNat, nilTest, shiftH, Blk.ren, V.ren, renL, initV, frameH, putL, frρ, dI, finN_ret, finN_normal, cutK_normal, cutK_ret, cutK_exit]
      exact ⟨_, _, ⟨us, rfl, rfl, rfl⟩, Weak.trimsM 1 (by simp) rfl (by simp [tget, V.lower, lowerL, lowerL_ds]) (by simp [Blk.lower])⟩

theorem n_heap_sorts (hS : Sort.SWO (ltC c)) (a b : Nat) (hab : a ≤ b) (hb : b ≤ zs.length) :
    NSpec Try.prog 85 [.own 0 0 zs.length, .d (.int .i64 a), .d (.int .i64 b), .func f (cap.map V.d)] [.dat false 1 (zs.map dI)]
      (OutL (fun zs' => PS a b zs zs' ∧ SoIn c a b zs')) := by
  refine NSpec.weak (n_heapSort hC zs hM hl a b hab hb) ?_
  rintro _ _ ⟨zs', rfl, rfl, he⟩
  obtain ⟨h1, h2⟩ := Sort.heapSort_holds (lt := ltC c) hS zs.toArray a b hab (by simpa using hb)
  have e : Sort.heapSort (ltC c) zs.toArray a b = zs'.toArray := by rw [he, Array.toArray_toList]
  rw [e] at h1 h2
  exact ⟨zs', rfl, rfl, .of_perm hab hb h1, .of h2⟩
end
end Go.Proofs.Ythpapgbpmkgfeaa.AM

/- Sorting parts: the insertion of few, as the kit's plain one. -/
set_option linter.all false
set_option maxRecDepth 100000
set_option maxHeartbeats 8000000
namespace Go.Proofs.Ythpapgbpmkgfeaa.AM
open Go Go.RowKit

theorem scan_go {lt : Int → Int → Bool} {d : Array Int} {b i : Nat} (h : i < b) (hl : lt d[i]! d[i - 1]! = false) : Sort.scanSorted lt d b i = Sort.scanSorted lt d b (i + 1) := by
  rw [Sort.scanSorted]; simp [h, hl]
theorem scan_stop {lt : Int → Int → Bool} {d : Array Int} {b i : Nat} (h : ¬ i < b ∨ lt d[i]! d[i - 1]! = true) : Sort.scanSorted lt d b i = i := by
  rw [Sort.scanSorted]
  rcases h with h | h
  · simp [h]
  · simp [h]
theorem down_go {lt : Int → Int → Bool} {d : Array Int} {j : Nat} (hl : lt d[j + 1]! d[j]! = true) : Sort.shiftDown lt (j + 1) d = Sort.shiftDown lt j (Sort.swp d (j + 1) j) := by
  rw [Sort.shiftDown]; simp [hl]
theorem down_stop {lt : Int → Int → Bool} {d : Array Int} {j : Nat} (hl : lt d[j + 1]! d[j]! = false) : Sort.shiftDown lt (j + 1) d = d := by
  rw [Sort.shiftDown]; simp [hl]
theorem up_go {lt : Int → Int → Bool} {d : Array Int} {b j : Nat} (h : j < b) (hl : lt d[j]! d[j - 1]! = true) : Sort.shiftUp lt b j d = Sort.shiftUp lt b (j + 1) (Sort.swp d j (j - 1)) := by
  rw [Sort.shiftUp]; simp [h, hl]
theorem up_stop {lt : Int → Int → Bool} {d : Array Int} {b j : Nat} (h : ¬ j < b ∨ lt d[j]! d[j - 1]! = false) : Sort.shiftUp lt b j d = d := by
  rw [Sort.shiftUp]
  rcases h with h | h
  · simp [h]
  · simp [h]

def OutBo (Q : Bool → List Int → Prop) : V → Heap → Prop := fun r H => ∃ (h : Bool) (zs' : List Int), r = .d (.bool h) ∧ H = [.dat false 1 (zs'.map dI)] ∧ Q h zs'

section
variable {f : Nat × Nat} {cap : List D} {c : Int → Int → Int} {M : Int → Prop} (hC : CmpC f cap c M) (zs : List Int) (hM : ∀ z ∈ zs, M z) (hl : zs.length ≤ 1000000)
include hC hM hl

theorem n_pins (a b : Nat) (hab : a < b) (hb : b ≤ zs.length) :
    NSpec Try.prog 89 [.own 0 0 zs.length, .d (.int .i64 a), .d (.int .i64 b), .func f (cap.map V.d)] [.dat false 1 (zs.map dI)]
      (OutBo (fun h zs' => (zs'.toArray, h) = Sort.partialInsertionSort (ltC c) zs.toArray a b)) := by
  refine NSpec.of_awp envOf_ok hmix Try.func89 rfl (fun args w => Try.call89 args w) (by simp [Try.f89]) ?_
  simp only [Try.f89]
  simp (maxSteps := 2000000) -implicitDefEqProofs only [zz, zE, evop, ev, ofVal, tget, tput, ok, V.isUndef, intBin, guardOf, initT, Ch.on, calleeOf, withArgs, told, xport, xports, tids, tidss, hget, hput, Blk.ice, freeze, V.cells, D.cells, V.isAgg, V.one, V.clo, clos, V.toD, loadD, structAt, eqCells, D.scalarEq, sliceOf, partsD, partsV, bound, isPtr, Blk.width, elems, lenOf, splice, D.over, resOf, resV, resVs, ↓reduceIte, reduceCtorEq, ↓reduceDIte, Nat.reduceLT, Nat.reduceEqDiff, Nat.reduceAdd, Nat.reduceSub, Nat.reduceMul, Nat.reduceLeDiff, Nat.reduceBEq, Nat.reduceBNe, Int.reduceNeg, Int.reduceAdd, Int.reduceSub, Int.reduceToNat, nilTest, shiftH, Blk.ren, V.ren, renL, initV, frameH, putL, frρ, dI, finN_ret, finN_normal, cutK_normal, cutK_ret, cutK_exit]
  have w0 : IntKind.i64.wrap ((a : Int) + 1) = ((a + 1 : Nat) : Int) := by rw [wrap_in (by omega)]; omega
  have w00 : IntKind.i64.wrap ((b : Int) - (a : Int)) = (b : Int) - (a : Int) := by rw [wrap_in (by omega)]
  refine wloop_ind (σ := Nat × Nat × List Int) (fun s => s.1) (fun s => [(10, .d (.int .i64 (5 - (s.1 : Int)))), (9, .d (.int .i64 (s.2.1 : Int))), (0, .own 0 0 zs.length), (1, .d (.int .i64 a)), (2, .d (.int .i64 b)), (3, .func f (cap.map V.d))]) (fun s => [.dat false 1 (s.2.2.map dI)]) (fun s => s.1 ≤ 5 ∧ a < s.2.1 ∧ s.2.1 ≤ b ∧ s.2.2.length = zs.length ∧ s.2.2.Perm zs ∧ Sort.partialIns (ltC c) a b s.1 s.2.1 s.2.2.toArray = Sort.partialInsertionSort (ltC c) zs.toArray a b) (5, a + 1, zs) ⟨by simp, by simp, by simp only; omega, rfl, .refl _, rfl⟩ (Weak.sub (by simp [tget, w0])) ?_
  rintro ⟨s, i, ys⟩ ⟨hs, hai, hib, hyl, hp, hR⟩
  simp only at hs hai hib hyl hp hR
  rw [← hR]
  have hMy : ∀ i v, ys[i]? = some v → M v := fun i v h => hM v (hp.mem_iff.1 (List.mem_of_getElem? h))
  clear hR
  cases s with
  | zero =>
    have e1 : ¬ ((5 : Int) - ((0 : Nat) : Int) < 5) := by omega
    simp (maxSteps := 2000000) -implicitDefEqProofs only [zz, zE, evop, ev, ofVal, tget, tput, ok, V.isUndef, intBin, guardOf, initT, Ch.on, calleeOf, withArgs, told, xport, xports, tids, tidss, hget, hput, Blk.ice, freeze, V.cells, D.cells, V.isAgg, V.one, V.clo, clos, V.toD, loadD, structAt, eqCells, D.scalarEq, sliceOf, partsD, partsV, bound, isPtr, Blk.width, elems, lenOf, splice, D.over, resOf, resV, resVs, ↓reduceIte, reduceCtorEq, ↓reduceDIte, Nat.reduceLT, Nat.reduceEqDiff, Nat.reduceAdd, Nat.reduceSub, Nat.reduceMul, Nat.reduceLeDiff, Nat.reduceBEq, Nat.reduceBNe, Int.reduceNeg, Int.reduceAdd, Int.reduceSub, Int.reduceToNat, nilTest, shiftH, Blk.ren, V.ren, renL, initV, frameH, putL, frρ, dI, finN_ret, finN_normal, cutK_normal, cutK_ret, cutK_exit, e1]
    exact ⟨_, _, ⟨false, ys, rfl, rfl, rfl⟩, Weak.trimsM 1 (by simp) rfl (by simp [tget, V.lower, lowerL, lowerL_ds]) (by simp [Blk.lower])⟩
  | succ s =>
    have e1 : ((5 : Int) - ((s + 1 : Nat) : Int) < 5) := by omega
    have e2 : IntKind.i64.wrap ((5 : Int) - ((s + 1 : Nat) : Int) + 1) = 5 - (s : Int) := by rw [wrap_in (by omega)]; omega
    rw [Sort.partialIns_succ]
    simp (maxSteps := 2000000) -implicitDefEqProofs only [zz, zE, evop, ev, ofVal, tget, tput, ok, V.isUndef, intBin, guardOf, initT, Ch.on, calleeOf, withArgs, told, xport, xports, tids, tidss, hget, hput, Blk.ice, freeze, V.cells, D.cells, V.isAgg, V.one, V.clo, clos, V.toD, loadD, structAt, eqCells, D.scalarEq, sliceOf, partsD, partsV, bound, isPtr, Blk.width, elems, lenOf, splice, D.over, resOf, resV, resVs, ↓reduceIte, reduceCtorEq, ↓reduceDIte, Nat.reduceLT, Nat.reduceEqDiff, Nat.reduceAdd, Nat.reduceSub, Nat.reduceMul, Nat.reduceLeDiff, Nat.reduceBEq, Nat.reduceBNe, Int.reduceNeg, Int.reduceAdd, Int.reduceSub, Int.reduceToNat, nilTest, shiftH, Blk.ren, V.ren, renL, initV, frameH, putL, frρ, dI, finN_ret, finN_normal, cutK_normal, cutK_ret, cutK_exit, e1]
    refine wloop_ind (σ := Nat) (fun i => b - i) (fun i => [(9, .d (.int .i64 (i : Int))), (10, .d (.int .i64 (5 - ((s + 1 : Nat) : Int)))), (0, .own 0 0 zs.length), (1, .d (.int .i64 a)), (2, .d (.int .i64 b)), (3, .func f (cap.map V.d))]) (fun _ => [.dat false 1 (ys.map dI)]) (fun i1 => i ≤ i1 ∧ i1 ≤ b ∧ Sort.scanSorted (ltC c) ys.toArray b i1 = Sort.scanSorted (ltC c) ys.toArray b i) i ⟨by omega, by omega, rfl⟩ (Weak.trimsM 1 (by simp) rfl (by simp [tget, V.lower, lowerL, lowerL_ds]) (by simp [Blk.lower])) ?_
    rintro i1 ⟨hi1, hi1b, hsc⟩
    rw [← hsc]
    obtain ⟨ip, hip⟩ : ∃ ip, i1 = ip + 1 := ⟨i1 - 1, by omega⟩
    have eip : i1 - 1 = ip := by omega
    have w1 : IntKind.i64.wrap ((i1 : Int) - 1) = (ip : Int) := by rw [wrap_in (by omega)]; omega
    have w2 : IntKind.i64.wrap ((i1 : Int) + 1) = ((i1 + 1 : Nat) : Int) := by rw [wrap_in (by omega)]; omega
    have w3 : IntKind.i64.wrap ((i1 : Int) - (a : Int)) = (i1 : Int) - (a : Int) := by rw [wrap_in (by omega)]
    have w4 : IntKind.i64.wrap ((b : Int) - (i1 : Int)) = (b : Int) - (i1 : Int) := by rw [wrap_in (by omega)]
    rcases (show ((i1 : Int) < (b : Int) ∧ ¬ c (ys.getD i1 0) (ys.getD ip 0) < 0) ∨ ((i1 : Int) < (b : Int) ∧ c (ys.getD i1 0) (ys.getD ip 0) < 0) ∨ ¬ (i1 : Int) < (b : Int) by
      by_cases h1 : (i1 : Int) < (b : Int)
      · by_cases h2 : c (ys.getD i1 0) (ys.getD ip 0) < 0
        · exact .inr (.inl ⟨h1, h2⟩)
        · exact .inl ⟨h1, h2⟩
      · exact .inr (.inr h1)) with ⟨hij, hlt⟩ | ⟨hij, hlt⟩ | hij
    · have g1 := getD_some (l := ys) (i := i1) (by omega)
      have g2 := getD_some (l := ys) (i := ip) (by omega)
      have hd : decide (c (ys.getD i1 0) (ys.getD ip 0) < 0) = false := by simpa using hlt
      have hsg : Sort.scanSorted (ltC c) ys.toArray b i1 = Sort.scanSorted (ltC c) ys.toArray b (i1 + 1) := scan_go (by omega) (by rw [tA_get, tA_get, eip]; exact ltC_f hlt)
      refine wdraw_plan [⟨[], false, [20], [], false⟩, ⟨[], false, [19], [0], false⟩, ⟨[0, 1], true, [], [], false⟩, ⟨[0, 1, 2], true, [], [], false⟩, ⟨[0, 1, 2, 3], false, [24, 25, 26, 27, 28, 29, 30, 31, 32], [], false⟩, ⟨[0, 1, 2, 3], false, [23, 25, 28, 29, 30, 31, 32], [4], false⟩, ⟨[0, 1, 2, 3], false, [23, 24, 28, 29, 30, 31, 32], [4, 5], false⟩, ⟨[0, 1, 2, 3, 5, 6], false, [23, 28, 29, 30, 31, 32], [4], false⟩, ⟨[0, 1, 2, 3, 5, 6, 7], false, [23, 28, 29, 30, 31, 32], [4], false⟩, ⟨[0, 1, 2, 3], false, [23, 24, 25, 26, 27, 29, 30], [4, 5, 6, 7, 8], false⟩, ⟨[0, 1, 2, 3], false, [23, 24, 25, 26, 27, 28], [4, 5, 6, 7, 8, 9], false⟩, ⟨[0, 1, 2, 3, 10], false, [23, 24, 25, 26, 27, 28], [4, 5, 6, 7, 8, 9], false⟩, ⟨[0, 1, 2, 3, 9, 10, 11], false, [23, 24, 25, 26, 27], [4, 5, 6, 7, 8], false⟩, ⟨[0, 1, 2, 3, 9, 10, 11, 12], false, [23, 24, 25, 26, 27], [4, 5, 6, 7, 8], false⟩, ⟨[0, 1, 2, 3, 4, 5, 6, 7, 8, 9, 10, 11, 12, 13], false, [], [], false⟩, ⟨[0, 1, 2, 3, 4, 5, 6, 7, 8, 9, 10, 11, 12, 13, 14], false, [], [], false⟩, ⟨[0, 1, 2, 3, 4, 5, 6, 7, 8, 9, 10, 11, 12, 13, 14, 15], false, [], [], false⟩, ⟨[0, 1, 2, 3, 4, 5, 6, 7, 8, 9, 10, 11, 12, 13, 14, 15, 16], true, [], [], false⟩] (by decide) ?_
      simp (maxSteps := 2000000) -implicitDefEqProofs only [zz, zE, evop, ev, ofVal, tget, tput, ok, V.isUndef, intBin, guardOf, initT, Ch.on, calleeOf, withArgs, told, xport, xports, tids, tidss, hget, hput, Blk.ice, freeze, V.cells, D.cells, V.isAgg, V.one, V.clo, clos, V.toD, loadD, structAt, eqCells, D.scalarEq, sliceOf, partsD, partsV, bound, isPtr, Blk.width, elems, lenOf, splice, D.over, resOf, resV, resVs, ↓reduceIte, reduceCtorEq, ↓reduceDIte, Nat.reduceLT, Nat.reduceEqDiff, Nat.reduceAdd, Nat.reduceSub, Nat.reduceMul, Nat.reduceLeDiff, Nat.reduceBEq, Nat.reduceBNe, Int.reduceNeg, Int.reduceAdd, Int.reduceSub, Int.reduceToNat, nilTest, shiftH, Blk.ren, V.ren, renL, initV, frameH, putL, frρ, dI, finN_ret, finN_normal, cutK_normal, cutK_ret, cutK_exit, hij, w1, List.getElem?_map, g1, g2, Option.map_some, Int.natCast_nonneg]
      refine ⟨by omega, by omega, ?_⟩
      refine dcall_flat (ds := cap.take f.2 ++ (dI (ys.getD i1 0) :: dI (ys.getD ip 0) :: cap.drop f.2)) (xports_two cap f.2 _ _ hC.1) (hC.2 _ _ (hMy _ _ g1) (hMy _ _ g2)) rfl ?_
      simp (maxSteps := 2000000) -implicitDefEqProofs only [zz, zE, evop, ev, ofVal, tget, tput, ok, V.isUndef, intBin, guardOf, initT, Ch.on, calleeOf, withArgs, told, xport, xports, tids, tidss, hget, hput, Blk.ice, freeze, V.cells, D.cells, V.isAgg, V.one, V.clo, clos, V.toD, loadD, structAt, eqCells, D.scalarEq, sliceOf, partsD, partsV, bound, isPtr, Blk.width, elems, lenOf, splice, D.over, resOf, resV, resVs, ↓reduceIte, reduceCtorEq, ↓reduceDIte, Nat.reduceLT, Nat.reduceEqDiff, Nat.reduceAdd, Nat.reduceSub, Nat.reduceMul, Nat.reduceLeDiff, Nat.reduceBEq, Nat.reduceBNe, Int.reduceNeg, Int.reduceAdd, Int.reduceSub, Int.reduceToNat, nilTest, shiftH, Blk.ren, V.ren, renL, initV, frameH, putL, frρ, dI, finN_ret, finN_normal, cutK_normal, cutK_ret, cutK_exit, hd]
      exact ⟨i1 + 1, ⟨by omega, by omega, hsg.symm⟩, by omega, Weak.trimsM 1 (by simp) rfl (by simp [tget, w2, V.lower, lowerL, lowerL_ds]) (by simp [Blk.lower])⟩
    case' inr.inl =>
      have g1 := getD_some (l := ys) (i := i1) (by omega)
      have g2 := getD_some (l := ys) (i := ip) (by omega)
      have hd : decide (c (ys.getD i1 0) (ys.getD ip 0) < 0) = true := by simpa using hlt
      rw [scan_stop (.inr (by rw [tA_get, tA_get, eip]; exact ltC_t hlt)), if_neg (show ¬ i1 = b by omega)]
      have hne : ((i1 : Int) == (b : Int)) = false := by simp; omega
      refine wdraw_plan [⟨[], false, [20], [], false⟩, ⟨[], false, [19], [0], false⟩, ⟨[0, 1], true, [], [], false⟩, ⟨[0, 1, 2], true, [], [], false⟩, ⟨[0, 1, 2, 3], false, [24, 25, 26, 27, 28, 29, 30, 31, 32], [], false⟩, ⟨[0, 1, 2, 3], false, [23, 25, 28, 29, 30, 31, 32], [4], false⟩, ⟨[0, 1, 2, 3], false, [23, 24, 28, 29, 30, 31, 32], [4, 5], false⟩, ⟨[0, 1, 2, 3, 5, 6], false, [23, 28, 29, 30, 31, 32], [4], false⟩, ⟨[0, 1, 2, 3, 5, 6, 7], false, [23, 28, 29, 30, 31, 32], [4], false⟩, ⟨[0, 1, 2, 3], false, [23, 24, 25, 26, 27, 29, 30], [4, 5, 6, 7, 8], false⟩, ⟨[0, 1, 2, 3], false, [23, 24, 25, 26, 27, 28], [4, 5, 6, 7, 8, 9], false⟩, ⟨[0, 1, 2, 3, 10], false, [23, 24, 25, 26, 27, 28], [4, 5, 6, 7, 8, 9], false⟩, ⟨[0, 1, 2, 3, 9, 10, 11], false, [23, 24, 25, 26, 27], [4, 5, 6, 7, 8], false⟩, ⟨[0, 1, 2, 3, 9, 10, 11, 12], false, [23, 24, 25, 26, 27], [4, 5, 6, 7, 8], false⟩, ⟨[0, 1, 2, 3, 4, 5, 6, 7, 8, 9, 10, 11, 12, 13], false, [], [], false⟩, ⟨[0, 1, 2, 3, 4, 5, 6, 7, 8, 9, 10, 11, 12, 13, 14], false, [], [], false⟩, ⟨[0, 1, 2, 3, 4, 5, 6, 7, 8, 9, 10, 11, 12, 13, 14, 15], false, [], [], false⟩, ⟨[0, 1, 2, 3, 4, 5, 6, 7, 8, 9, 10, 11, 12, 13, 14, 15, 16], true, [], [], false⟩] (by decide) ?_
      simp (maxSteps := 2000000) -implicitDefEqProofs only [zz, zE, evop, ev, ofVal, tget, tput, ok, V.isUndef, intBin, guardOf, initT, Ch.on, calleeOf, withArgs, told, xport, xports, tids, tidss, hget, hput, Blk.ice, freeze, V.cells, D.cells, V.isAgg, V.one, V.clo, clos, V.toD, loadD, structAt, eqCells, D.scalarEq, sliceOf, partsD, partsV, bound, isPtr, Blk.width, elems, lenOf, splice, D.over, resOf, resV, resVs, ↓reduceIte, reduceCtorEq, ↓reduceDIte, Nat.reduceLT, Nat.reduceEqDiff, Nat.reduceAdd, Nat.reduceSub, Nat.reduceMul, Nat.reduceLeDiff, Nat.reduceBEq, Nat.reduceBNe, Int.reduceNeg, Int.reduceAdd, Int.reduceSub, Int.reduceToNat, nilTest, shiftH, Blk.ren, V.ren, renL, initV, frameH, putL, frρ, dI, finN_ret, finN_normal, cutK_normal, cutK_ret, cutK_exit, hij, w1, List.getElem?_map, g1, g2, Option.map_some, Int.natCast_nonneg]
      refine ⟨by omega, by omega, ?_⟩
      refine dcall_flat (ds := cap.take f.2 ++ (dI (ys.getD i1 0) :: dI (ys.getD ip 0) :: cap.drop f.2)) (xports_two cap f.2 _ _ hC.1) (hC.2 _ _ (hMy _ _ g1) (hMy _ _ g2)) rfl ?_
      simp (maxSteps := 2000000) -implicitDefEqProofs only [zz, zE, evop, ev, ofVal, tget, tput, ok, V.isUndef, intBin, guardOf, initT, Ch.on, calleeOf, withArgs, told, xport, xports, tids, tidss, hget, hput, Blk.ice, freeze, V.cells, D.cells, V.isAgg, V.one, V.clo, clos, V.toD, loadD, structAt, eqCells, D.scalarEq, sliceOf, partsD, partsV, bound, isPtr, Blk.width, elems, lenOf, splice, D.over, resOf, resV, resVs, ↓reduceIte, reduceCtorEq, ↓reduceDIte, Nat.reduceLT, Nat.reduceEqDiff, Nat.reduceAdd, Nat.reduceSub, Nat.reduceMul, Nat.reduceLeDiff, Nat.reduceBEq, Nat.reduceBNe, Int.reduceNeg, Int.reduceAdd, Int.reduceSub, Int.reduceToNat, nilTest, shiftH, Blk.ren, V.ren, renL, initV, frameH, putL, frρ, dI, finN_ret, finN_normal, cutK_normal, cutK_ret, cutK_exit, hd, hne, w00]
      by_cases h50 : (b : Int) - (a : Int) < 50
      · rw [if_pos (show b - a < 50 by omega)]
        simp (maxSteps := 2000000) -implicitDefEqProofs only [zz, zE, evop, ev, ofVal, tget, tput, ok, V.isUndef, intBin, guardOf, initT, Ch.on, calleeOf, withArgs, told, xport, xports, tids, tidss, hget, hput, Blk.ice, freeze, V.cells, D.cells, V.isAgg, V.one, V.clo, clos, V.toD, loadD, structAt, eqCells, D.scalarEq, sliceOf, partsD, partsV, bound, isPtr, Blk.width, elems, lenOf, splice, D.over, resOf, resV, resVs, ↓reduceIte, reduceCtorEq, ↓reduceDIte, Nat.reduceLT, Nat.reduceEqDiff, Nat.reduceAdd, Nat.reduceSub, Nat.reduceMul, Nat.reduceLeDiff, Nat.reduceBEq, Nat.reduceBNe, Int.reduceNeg, Int.reduceAdd, Int.reduceSub, Int.reduceToNat, nilTest, shiftH, Blk.ren, V.ren, renL, initV, frameH, putL, frρ, dI, finN_ret, finN_normal, cutK_normal, cutK_ret, cutK_exit, h50]
        exact ⟨_, _, ⟨false, ys, rfl, rfl, rfl⟩, Weak.trimsM 1 (by simp) rfl (by simp [tget, V.lower, lowerL, lowerL_ds]) (by simp [Blk.lower])⟩
      rw [if_neg (show ¬ b - a < 50 by omega), eip, tA_swp (by omega) (by omega)]
      have g3 : (ys.set i1 (ys.getD ip 0))[ip]? = some ((ys.set i1 (ys.getD ip 0)).getD ip 0) := getD_some (by simp; omega)
      have g4 : (ys.set i1 (ys.getD ip 0)).set ip (ys.getD i1 0) = sw ys i1 ip := rfl
      simp (maxSteps := 2000000) -implicitDefEqProofs only [zz, zE, evop, ev, ofVal, tget, tput, ok, V.isUndef, intBin, guardOf, initT, Ch.on, calleeOf, withArgs, told, xport, xports, tids, tidss, hget, hput, Blk.ice, freeze, V.cells, D.cells, V.isAgg, V.one, V.clo, clos, V.toD, loadD, structAt, eqCells, D.scalarEq, sliceOf, partsD, partsV, bound, isPtr, Blk.width, elems, lenOf, splice, D.over, resOf, resV, resVs, ↓reduceIte, reduceCtorEq, ↓reduceDIte, Nat.reduceLT, Nat.reduceEqDiff, Nat.reduceAdd, Nat.reduceSub, Nat.reduceMul, Nat.reduceLeDiff, Nat.reduceBEq, Nat.reduceBNe, Int.reduceNeg, Int.reduceAdd, Int.reduceSub, Int.reduceToNat, nilTest, shiftH, Blk.ren, V.ren, renL, initV, frameH, putL, frρ, dI, finN_ret, finN_normal, cutK_normal, cutK_ret, cutK_exit, h50]
      refine wdraw_plan [⟨[], false, [47, 48, 49, 50, 51, 52, 53, 54, 55, 56, 57, 58, 59], [], false⟩, ⟨[], false, [46, 48, 49, 50, 51, 52, 53, 54, 55, 56, 57, 58, 59], [0], false⟩, ⟨[], false, [46, 47, 48, 49, 50, 51, 52, 53, 54, 55, 56, 57, 58, 59, 60, 61], [0, 1], true⟩, ⟨[], false, [46, 47, 48, 49, 50, 51, 52, 53, 54, 55, 56, 57, 58, 59, 60, 61], [0, 1, 2], true⟩, ⟨[3], false, [46, 47, 48, 50, 51, 52, 53, 54, 55, 56, 57, 58, 59, 60, 61], [0, 1, 2], true⟩, ⟨[], false, [46, 47, 48, 49, 50, 52, 53, 56, 57, 58, 59], [0, 1, 2, 3, 4], false⟩, ⟨[], false, [46, 47, 48, 49, 50, 51, 56, 57, 58, 59], [0, 1, 2, 3, 4, 5], false⟩, ⟨[6], false, [46, 47, 48, 49, 50, 51, 56, 57, 58, 59], [0, 1, 2, 3, 4, 5], false⟩, ⟨[5, 6, 7], false, [46, 47, 48, 49, 50, 56, 57, 58, 59], [0, 1, 2, 3, 4], false⟩, ⟨[5, 6, 7, 8], false, [46, 47, 48, 49, 50, 56, 57, 58, 59], [0, 1, 2, 3, 4], false⟩, ⟨[], false, [46, 47, 48, 49, 50, 51, 52, 53, 54, 55, 57], [0, 1, 2, 3, 4, 5, 6, 7, 8, 9], false⟩, ⟨[], false, [46, 47, 48, 49, 50, 51, 52, 53, 54, 55, 56], [0, 1, 2, 3, 4, 5, 6, 7, 8, 9, 10], false⟩, ⟨[10, 11], false, [46, 47, 48, 49, 50, 51, 52, 53, 54, 55], [0, 1, 2, 3, 4, 5, 6, 7, 8, 9], false⟩, ⟨[10, 11, 12], false, [46, 47, 48, 49, 50, 51, 52, 53, 54, 55], [0, 1, 2, 3, 4, 5, 6, 7, 8, 9], false⟩, ⟨[0, 1, 5, 6, 7, 8, 9, 10, 11, 12, 13], false, [48, 49, 50], [2, 3, 4], false⟩, ⟨[0, 1, 5, 6, 7, 8, 9, 10, 11, 12, 13, 14], true, [48, 49, 50], [], false⟩, ⟨[0, 1, 2, 3, 4, 5, 6, 7, 8, 9, 10, 11, 12, 13, 14, 15], true, [], [], false⟩, ⟨[0, 1, 2, 3, 4, 5, 6, 7, 8, 9, 10, 11, 12, 13, 14, 15, 16], true, [], [], false⟩] (by decide) ?_
      simp (maxSteps := 2000000) -implicitDefEqProofs only [zz, zE, evop, ev, ofVal, tget, tput, ok, V.isUndef, intBin, guardOf, initT, Ch.on, calleeOf, withArgs, told, xport, xports, tids, tidss, hget, hput, Blk.ice, freeze, V.cells, D.cells, V.isAgg, V.one, V.clo, clos, V.toD, loadD, structAt, eqCells, D.scalarEq, sliceOf, partsD, partsV, bound, isPtr, Blk.width, elems, lenOf, splice, D.over, resOf, resV, resVs, ↓reduceIte, reduceCtorEq, ↓reduceDIte, Nat.reduceLT, Nat.reduceEqDiff, Nat.reduceAdd, Nat.reduceSub, Nat.reduceMul, Nat.reduceLeDiff, Nat.reduceBEq, Nat.reduceBNe, Int.reduceNeg, Int.reduceAdd, Int.reduceSub, Int.reduceToNat, nilTest, shiftH, Blk.ren, V.ren, renL, initV, frameH, putL, frρ, dI, finN_ret, finN_normal, cutK_normal, cutK_ret, cutK_exit, w1, List.getElem?_map, g1, g2, g3, Option.map_some, Int.natCast_nonneg, set_dI, g4, w3]
      refine ⟨by omega, by omega, by omega, by omega, ?_⟩
      obtain ⟨y1, hy1⟩ : ∃ y1, y1 = sw ys i1 ip := ⟨_, rfl⟩
      rw [← hy1]
      have hl1 : y1.length = zs.length := by rw [hy1, sw_len]; exact hyl
      have hp1 : y1.Perm zs := by rw [hy1]; exact (sw_perm ys (by omega) (by omega)).trans hp
      clear hy1 g1 g2 g3 g4 hd hne hMy hsc
      by_cases h2 : (i1 : Int) - (a : Int) ≥ 2
      case' pos =>
        have hfd : Sort.fixDown (ltC c) a i1 y1.toArray = Sort.shiftDown (ltC c) ip y1.toArray := by unfold Sort.fixDown; rw [if_pos (by omega), eip]
        simp (maxSteps := 2000000) -implicitDefEqProofs only [zz, zE, evop, ev, ofVal, tget, tput, ok, V.isUndef, intBin, guardOf, initT, Ch.on, calleeOf, withArgs, told, xport, xports, tids, tidss, hget, hput, Blk.ice, freeze, V.cells, D.cells, V.isAgg, V.one, V.clo, clos, V.toD, loadD, structAt, eqCells, D.scalarEq, sliceOf, partsD, partsV, bound, isPtr, Blk.width, elems, lenOf, splice, D.over, resOf, resV, resVs, ↓reduceIte, reduceCtorEq, ↓reduceDIte, Nat.reduceLT, Nat.reduceEqDiff, Nat.reduceAdd, Nat.reduceSub, Nat.reduceMul, Nat.reduceLeDiff, Nat.reduceBEq, Nat.reduceBNe, Int.reduceNeg, Int.reduceAdd, Int.reduceSub, Int.reduceToNat, nilTest, shiftH, Blk.ren, V.ren, renL, initV, frameH, putL, frρ, dI, finN_ret, finN_normal, cutK_normal, cutK_ret, cutK_exit, h2, w1]
        refine wloop_ind (σ := Nat × List Int) (fun r => r.1) (fun r => [(11, .d (.int .i64 (r.1 : Int))), (9, .d (.int .i64 (i1 : Int))), (10, .d (.int .i64 (5 - ((s + 1 : Nat) : Int)))), (0, .own 0 0 zs.length), (1, .d (.int .i64 a)), (2, .d (.int .i64 b)), (3, .func f (cap.map V.d))]) (fun r => [.dat false 1 (r.2.map dI)]) (fun r => r.1 ≤ ip ∧ r.2.length = zs.length ∧ r.2.Perm zs ∧ Sort.fixDown (ltC c) a i1 y1.toArray = Sort.shiftDown (ltC c) r.1 r.2.toArray) (ip, y1) ⟨by simp, hl1, hp1, hfd⟩ (Weak.trimsM 1 (by simp) rfl (by simp [tget, V.lower, lowerL, lowerL_ds]) (by simp [Blk.lower])) ?_
        rintro ⟨j, us⟩ ⟨hj, hul, hup, hfx⟩
        simp only at hj hul hup hfx
        have hMu : ∀ i v, us[i]? = some v → M v := fun i v h => hM v (hup.mem_iff.1 (List.mem_of_getElem? h))
        rcases (show (∃ j1, j = j1 + 1 ∧ c (us.getD (j1 + 1) 0) (us.getD j1 0) < 0) ∨ (∃ j1, j = j1 + 1 ∧ ¬ c (us.getD (j1 + 1) 0) (us.getD j1 0) < 0) ∨ j = 0 by
          cases j with
          | zero => exact .inr (.inr rfl)
          | succ j1 => by_cases h : c (us.getD (j1 + 1) 0) (us.getD j1 0) < 0
                       · exact .inl ⟨j1, rfl, h⟩
                       · exact .inr (.inl ⟨j1, rfl, h⟩)) with ⟨j1, rfl, hlt⟩ | ⟨j1, rfl, hlt⟩ | rfl
        · have v1 : IntKind.i64.wrap (((j1 + 1 : Nat) : Int) - 1) = (j1 : Int) := by rw [wrap_in (by omega)]; omega
          have v2 : ((j1 + 1 : Nat) : Int) ≥ 1 := by omega
          have g1 := getD_some (l := us) (i := j1 + 1) (by omega)
          have g2 := getD_some (l := us) (i := j1) (by omega)
          have g3 : (us.set (j1 + 1) (us.getD j1 0))[j1]? = some ((us.set (j1 + 1) (us.getD j1 0)).getD j1 0) := getD_some (by simp; omega)
          have g4 : (us.set (j1 + 1) (us.getD j1 0)).set j1 (us.getD (j1 + 1) 0) = sw us (j1 + 1) j1 := rfl
          rw [down_go (by rw [tA_get, tA_get]; exact ltC_t hlt), tA_swp (by omega) (by omega)] at hfx
          simp (maxSteps := 2000000) -implicitDefEqProofs only [zz, zE, evop, ev, ofVal, tget, tput, ok, V.isUndef, intBin, guardOf, initT, Ch.on, calleeOf, withArgs, told, xport, xports, tids, tidss, hget, hput, Blk.ice, freeze, V.cells, D.cells, V.isAgg, V.one, V.clo, clos, V.toD, loadD, structAt, eqCells, D.scalarEq, sliceOf, partsD, partsV, bound, isPtr, Blk.width, elems, lenOf, splice, D.over, resOf, resV, resVs, ↓reduceIte, reduceCtorEq, ↓reduceDIte, Nat.reduceLT, Nat.reduceEqDiff, Nat.reduceAdd, Nat.reduceSub, Nat.reduceMul, Nat.reduceLeDiff, Nat.reduceBEq, Nat.reduceBNe, Int.reduceNeg, Int.reduceAdd, Int.reduceSub, Int.reduceToNat, nilTest, shiftH, Blk.ren, V.ren, renL, initV, frameH, putL, frρ, dI, finN_ret, finN_normal, cutK_normal, cutK_ret, cutK_exit, v2]
          refine wdraw_plan [⟨[], false, [73, 74, 75, 76, 77, 78, 79, 80, 81], [], false⟩, ⟨[], false, [72, 74, 77, 78, 79, 80, 81], [0], false⟩, ⟨[], false, [72, 73, 77, 78, 79, 80, 81], [0, 1], false⟩, ⟨[1, 2], false, [72, 77, 78, 79, 80, 81], [0], false⟩, ⟨[1, 2, 3], false, [72, 77, 78, 79, 80, 81], [0], false⟩, ⟨[], false, [72, 73, 74, 75, 76, 78, 79], [0, 1, 2, 3, 4], false⟩, ⟨[], false, [72, 73, 74, 75, 76, 77], [0, 1, 2, 3, 4, 5], false⟩, ⟨[6], false, [72, 73, 74, 75, 76, 77], [0, 1, 2, 3, 4, 5], false⟩, ⟨[5, 6, 7], false, [72, 73, 74, 75, 76], [0, 1, 2, 3, 4], false⟩, ⟨[5, 6, 7, 8], false, [72, 73, 74, 75, 76], [0, 1, 2, 3, 4], false⟩, ⟨[0, 1, 2, 3, 4, 5, 6, 7, 8, 9], true, [], [], false⟩, ⟨[0, 1, 2, 3, 4, 5, 6, 7, 8, 9, 10], true, [], [], false⟩, ⟨[0, 1, 2, 3, 4, 5, 6, 7, 8, 9, 10, 11], true, [], [], false⟩] (by decide) ?_
          simp (maxSteps := 2000000) -implicitDefEqProofs only [zz, zE, evop, ev, ofVal, tget, tput, ok, V.isUndef, intBin, guardOf, initT, Ch.on, calleeOf, withArgs, told, xport, xports, tids, tidss, hget, hput, Blk.ice, freeze, V.cells, D.cells, V.isAgg, V.one, V.clo, clos, V.toD, loadD, structAt, eqCells, D.scalarEq, sliceOf, partsD, partsV, bound, isPtr, Blk.width, elems, lenOf, splice, D.over, resOf, resV, resVs, ↓reduceIte, reduceCtorEq, ↓reduceDIte, Nat.reduceLT, Nat.reduceEqDiff, Nat.reduceAdd, Nat.reduceSub, Nat.reduceMul, Nat.reduceLeDiff, Nat.reduceBEq, Nat.reduceBNe, Int.reduceNeg, Int.reduceAdd, Int.reduceSub, Int.reduceToNat, nilTest, shiftH, Blk.ren, V.ren, renL, initV, frameH, putL, frρ, dI, finN_ret, finN_normal, cutK_normal, cutK_ret, cutK_exit, v1, List.getElem?_map, g1, g2, Option.map_some, Int.natCast_nonneg]
          refine ⟨by omega, by omega, ?_⟩
          refine acall_flat (ds := cap.take f.2 ++ (dI (us.getD (j1 + 1) 0) :: dI (us.getD j1 0) :: cap.drop f.2)) (xports_two cap f.2 _ _ hC.1) (hC.2 _ _ (hMu _ _ g1) (hMu _ _ g2)) rfl ?_
          simp (maxSteps := 2000000) -implicitDefEqProofs only [zz, zE, evop, ev, ofVal, tget, tput, ok, V.isUndef, intBin, guardOf, initT, Ch.on, calleeOf, withArgs, told, xport, xports, tids, tidss, hget, hput, Blk.ice, freeze, V.cells, D.cells, V.isAgg, V.one, V.clo, clos, V.toD, loadD, structAt, eqCells, D.scalarEq, sliceOf, partsD, partsV, bound, isPtr, Blk.width, elems, lenOf, splice, D.over, resOf, resV, resVs, ↓reduceIte, reduceCtorEq, ↓reduceDIte, Nat.reduceLT, Nat.reduceEqDiff, Nat.reduceAdd, Nat.reduceSub, Nat.reduceMul, Nat.reduceLeDiff, Nat.reduceBEq, Nat.reduceBNe, Int.reduceNeg, Int.reduceAdd, Int.reduceSub, Int.reduceToNat, nilTest, shiftH, Blk.ren, V.ren, renL, initV, frameH, putL, frρ, dI, finN_ret, finN_normal, cutK_normal, cutK_ret, cutK_exit, hlt]
          refine wdraw_plan [⟨[], false, [86, 87, 88, 89, 90, 91, 92, 93, 94, 95, 96, 97, 98], [], false⟩, ⟨[], false, [85, 87, 88, 89, 90, 91, 92, 93, 94, 95, 96, 97, 98], [0], false⟩, ⟨[], false, [85, 86, 87, 88, 89, 90, 91, 92, 93, 94, 95, 96, 97, 98, 99, 100], [0, 1], true⟩, ⟨[], false, [85, 86, 87, 88, 89, 90, 91, 92, 93, 94, 95, 96, 97, 98, 99, 100], [0, 1, 2], true⟩, ⟨[3], false, [85, 86, 87, 89, 90, 91, 92, 93, 94, 95, 96, 97, 98, 99, 100], [0, 1, 2], true⟩, ⟨[], false, [85, 86, 87, 88, 89, 91, 92, 95, 96, 97, 98], [0, 1, 2, 3, 4], false⟩, ⟨[], false, [85, 86, 87, 88, 89, 90, 95, 96, 97, 98], [0, 1, 2, 3, 4, 5], false⟩, ⟨[6], false, [85, 86, 87, 88, 89, 90, 95, 96, 97, 98], [0, 1, 2, 3, 4, 5], false⟩, ⟨[5, 6, 7], false, [85, 86, 87, 88, 89, 95, 96, 97, 98], [0, 1, 2, 3, 4], false⟩, ⟨[5, 6, 7, 8], false, [85, 86, 87, 88, 89, 95, 96, 97, 98], [0, 1, 2, 3, 4], false⟩, ⟨[], false, [85, 86, 87, 88, 89, 90, 91, 92, 93, 94, 96], [0, 1, 2, 3, 4, 5, 6, 7, 8, 9], false⟩, ⟨[], false, [85, 86, 87, 88, 89, 90, 91, 92, 93, 94, 95], [0, 1, 2, 3, 4, 5, 6, 7, 8, 9, 10], false⟩, ⟨[10, 11], false, [85, 86, 87, 88, 89, 90, 91, 92, 93, 94], [0, 1, 2, 3, 4, 5, 6, 7, 8, 9], false⟩, ⟨[10, 11, 12], false, [85, 86, 87, 88, 89, 90, 91, 92, 93, 94], [0, 1, 2, 3, 4, 5, 6, 7, 8, 9], false⟩, ⟨[0, 1, 5, 6, 7, 8, 9, 10, 11, 12, 13], false, [87, 88, 89], [2, 3, 4], false⟩, ⟨[0, 1, 5, 6, 7, 8, 9, 10, 11, 12, 13, 14], true, [87, 88, 89], [], false⟩, ⟨[0, 1, 2, 3, 4, 5, 6, 7, 8, 9, 10, 11, 12, 13, 14, 15], true, [], [], false⟩, ⟨[0, 1, 2, 3, 4, 5, 6, 7, 8, 9, 10, 11, 12, 13, 14, 15, 16], true, [], [], false⟩] (by decide) ?_
          simp (maxSteps := 2000000) -implicitDefEqProofs only [zz, zE, evop, ev, ofVal, tget, tput, ok, V.isUndef, intBin, guardOf, initT, Ch.on, calleeOf, withArgs, told, xport, xports, tids, tidss, hget, hput, Blk.ice, freeze, V.cells, D.cells, V.isAgg, V.one, V.clo, clos, V.toD, loadD, structAt, eqCells, D.scalarEq, sliceOf, partsD, partsV, bound, isPtr, Blk.width, elems, lenOf, splice, D.over, resOf, resV, resVs, ↓reduceIte, reduceCtorEq, ↓reduceDIte, Nat.reduceLT, Nat.reduceEqDiff, Nat.reduceAdd, Nat.reduceSub, Nat.reduceMul, Nat.reduceLeDiff, Nat.reduceBEq, Nat.reduceBNe, Int.reduceNeg, Int.reduceAdd, Int.reduceSub, Int.reduceToNat, nilTest, shiftH, Blk.ren, V.ren, renL, initV, frameH, putL, frρ, dI, finN_ret, finN_normal, cutK_normal, cutK_ret, cutK_exit, v1, List.getElem?_map, g1, g2, g3, Option.map_some, Int.natCast_nonneg, set_dI, g4]
          exact ⟨by omega, by omega, by omega, by omega, (j1, sw us (j1 + 1) j1), ⟨by simp only; omega, by rw [sw_len]; exact hul, (sw_perm us (by omega) (by omega)).trans hup, hfx⟩, by simp only; omega, Weak.trimsM 1 (by simp) rfl (by simp [tget, V.lower, lowerL, lowerL_ds]) (by simp [Blk.lower])⟩
        case' inr.inl =>
          have v1 : IntKind.i64.wrap (((j1 + 1 : Nat) : Int) - 1) = (j1 : Int) := by rw [wrap_in (by omega)]; omega
          have v2 : ((j1 + 1 : Nat) : Int) ≥ 1 := by omega
          have g1 := getD_some (l := us) (i := j1 + 1) (by omega)
          have g2 := getD_some (l := us) (i := j1) (by omega)
          have hd : decide (c (us.getD (j1 + 1) 0) (us.getD j1 0) < 0) = false := by simpa using hlt
          rw [down_stop (by rw [tA_get, tA_get]; exact ltC_f hlt)] at hfx
          simp (maxSteps := 2000000) -implicitDefEqProofs only [zz, zE, evop, ev, ofVal, tget, tput, ok, V.isUndef, intBin, guardOf, initT, Ch.on, calleeOf, withArgs, told, xport, xports, tids, tidss, hget, hput, Blk.ice, freeze, V.cells, D.cells, V.isAgg, V.one, V.clo, clos, V.toD, loadD, structAt, eqCells, D.scalarEq, sliceOf, partsD, partsV, bound, isPtr, Blk.width, elems, lenOf, splice, D.over, resOf, resV, resVs, ↓reduceIte, reduceCtorEq, ↓reduceDIte, Nat.reduceLT, Nat.reduceEqDiff, Nat.reduceAdd, Nat.reduceSub, Nat.reduceMul, Nat.reduceLeDiff, Nat.reduceBEq, Nat.reduceBNe, Int.reduceNeg, Int.reduceAdd, Int.reduceSub, Int.reduceToNat, nilTest, shiftH, Blk.ren, V.ren, renL, initV, frameH, putL, frρ, dI, finN_ret, finN_normal, cutK_normal, cutK_ret, cutK_exit, v2]
          refine wdraw_plan [⟨[], false, [73, 74, 75, 76, 77, 78, 79, 80, 81], [], false⟩, ⟨[], false, [72, 74, 77, 78, 79, 80, 81], [0], false⟩, ⟨[], false, [72, 73, 77, 78, 79, 80, 81], [0, 1], false⟩, ⟨[1, 2], false, [72, 77, 78, 79, 80, 81], [0], false⟩, ⟨[1, 2, 3], false, [72, 77, 78, 79, 80, 81], [0], false⟩, ⟨[], false, [72, 73, 74, 75, 76, 78, 79], [0, 1, 2, 3, 4], false⟩, ⟨[], false, [72, 73, 74, 75, 76, 77], [0, 1, 2, 3, 4, 5], false⟩, ⟨[6], false, [72, 73, 74, 75, 76, 77], [0, 1, 2, 3, 4, 5], false⟩, ⟨[5, 6, 7], false, [72, 73, 74, 75, 76], [0, 1, 2, 3, 4], false⟩, ⟨[5, 6, 7, 8], false, [72, 73, 74, 75, 76], [0, 1, 2, 3, 4], false⟩, ⟨[0, 1, 2, 3, 4, 5, 6, 7, 8, 9], true, [], [], false⟩, ⟨[0, 1, 2, 3, 4, 5, 6, 7, 8, 9, 10], true, [], [], false⟩, ⟨[0, 1, 2, 3, 4, 5, 6, 7, 8, 9, 10, 11], true, [], [], false⟩] (by decide) ?_
          simp (maxSteps := 2000000) -implicitDefEqProofs only [zz, zE, evop, ev, ofVal, tget, tput, ok, V.isUndef, intBin, guardOf, initT, Ch.on, calleeOf, withArgs, told, xport, xports, tids, tidss, hget, hput, Blk.ice, freeze, V.cells, D.cells, V.isAgg, V.one, V.clo, clos, V.toD, loadD, structAt, eqCells, D.scalarEq, sliceOf, partsD, partsV, bound, isPtr, Blk.width, elems, lenOf, splice, D.over, resOf, resV, resVs, ↓reduceIte, reduceCtorEq, ↓reduceDIte, Nat.reduceLT, Nat.reduceEqDiff, Nat.reduceAdd, Nat.reduceSub, Nat.reduceMul, Nat.reduceLeDiff, Nat.reduceBEq, Nat.reduceBNe, Int.reduceNeg, Int.reduceAdd, Int.reduceSub, Int.reduceToNat, nilTest, shiftH, Blk.ren, V.ren, renL, initV, frameH, putL, frρ, dI, finN_ret, finN_normal, cutK_normal, cutK_ret, cutK_exit, v1, List.getElem?_map, g1, g2, Option.map_some, Int.natCast_nonneg]
          refine ⟨by omega, by omega, ?_⟩
          refine acall_flat (ds := cap.take f.2 ++ (dI (us.getD (j1 + 1) 0) :: dI (us.getD j1 0) :: cap.drop f.2)) (xports_two cap f.2 _ _ hC.1) (hC.2 _ _ (hMu _ _ g1) (hMu _ _ g2)) rfl ?_
          simp (maxSteps := 2000000) -implicitDefEqProofs only [zz, zE, evop, ev, ofVal, tget, tput, ok, V.isUndef, intBin, guardOf, initT, Ch.on, calleeOf, withArgs, told, xport, xports, tids, tidss, hget, hput, Blk.ice, freeze, V.cells, D.cells, V.isAgg, V.one, V.clo, clos, V.toD, loadD, structAt, eqCells, D.scalarEq, sliceOf, partsD, partsV, bound, isPtr, Blk.width, elems, lenOf, splice, D.over, resOf, resV, resVs, ↓reduceIte, reduceCtorEq, ↓reduceDIte, Nat.reduceLT, Nat.reduceEqDiff, Nat.reduceAdd, Nat.reduceSub, Nat.reduceMul, Nat.reduceLeDiff, Nat.reduceBEq, Nat.reduceBNe, Int.reduceNeg, Int.reduceAdd, Int.reduceSub, Int.reduceToNat, nilTest, shiftH, Blk.ren, V.ren, renL, initV, frameH, putL, frρ, dI, finN_ret, finN_normal, cutK_normal, cutK_ret, cutK_exit, hd]
          clear g1 g2
        case' inr.inr =>
          have v2 : ¬ ((0 : Nat) : Int) ≥ 1 := by omega
          rw [Sort.shiftDown] at hfx
          simp (maxSteps := 2000000) -implicitDefEqProofs only [zz, zE, evop, ev, ofVal, tget, tput, ok, V.isUndef, intBin, guardOf, initT, Ch.on, calleeOf, withArgs, told, xport, xports, tids, tidss, hget, hput, Blk.ice, freeze, V.cells, D.cells, V.isAgg, V.one, V.clo, clos, V.toD, loadD, structAt, eqCells, D.scalarEq, sliceOf, partsD, partsV, bound, isPtr, Blk.width, elems, lenOf, splice, D.over, resOf, resV, resVs, ↓reduceIte, reduceCtorEq, ↓reduceDIte, Nat.reduceLT, Nat.reduceEqDiff, Nat.reduceAdd, Nat.reduceSub, Nat.reduceMul, Nat.reduceLeDiff, Nat.reduceBEq, Nat.reduceBNe, Int.reduceNeg, Int.reduceAdd, Int.reduceSub, Int.reduceToNat, nilTest, shiftH, Blk.ren, V.ren, renL, initV, frameH, putL, frρ, dI, finN_ret, finN_normal, cutK_normal, cutK_ret, cutK_exit, v2]
      case' neg =>
        have hfx : Sort.fixDown (ltC c) a i1 y1.toArray = y1.toArray := by unfold Sort.fixDown; rw [if_neg (by omega)]
        simp (maxSteps := 2000000) -implicitDefEqProofs only [zz, zE, evop, ev, ofVal, tget, tput, ok, V.isUndef, intBin, guardOf, initT, Ch.on, calleeOf, withArgs, told, xport, xports, tids, tidss, hget, hput, Blk.ice, freeze, V.cells, D.cells, V.isAgg, V.one, V.clo, clos, V.toD, loadD, structAt, eqCells, D.scalarEq, sliceOf, partsD, partsV, bound, isPtr, Blk.width, elems, lenOf, splice, D.over, resOf, resV, resVs, ↓reduceIte, reduceCtorEq, ↓reduceDIte, Nat.reduceLT, Nat.reduceEqDiff, Nat.reduceAdd, Nat.reduceSub, Nat.reduceMul, Nat.reduceLeDiff, Nat.reduceBEq, Nat.reduceBNe, Int.reduceNeg, Int.reduceAdd, Int.reduceSub, Int.reduceToNat, nilTest, shiftH, Blk.ren, V.ren, renL, initV, frameH, putL, frρ, dI, finN_ret, finN_normal, cutK_normal, cutK_ret, cutK_exit, h2]
        obtain ⟨us, hus⟩ : ∃ us, us = y1 := ⟨_, rfl⟩
        rw [← hus] at hfx hl1 hp1
        have hul := hl1
        have hup := hp1
        rw [← hus]
        rw [hus] at hfx
        rw [← hus] at hfx
      all_goals
        rw [hfx]
        by_cases h3 : (b : Int) - (i1 : Int) ≥ 2
        case' pos =>
          have hfu : Sort.fixUp (ltC c) b i1 us.toArray = Sort.shiftUp (ltC c) b (i1 + 1) us.toArray := by unfold Sort.fixUp; rw [if_pos (by omega)]
          simp (maxSteps := 2000000) -implicitDefEqProofs only [zz, zE, evop, ev, ofVal, tget, tput, ok, V.isUndef, intBin, guardOf, initT, Ch.on, calleeOf, withArgs, told, xport, xports, tids, tidss, hget, hput, Blk.ice, freeze, V.cells, D.cells, V.isAgg, V.one, V.clo, clos, V.toD, loadD, structAt, eqCells, D.scalarEq, sliceOf, partsD, partsV, bound, isPtr, Blk.width, elems, lenOf, splice, D.over, resOf, resV, resVs, ↓reduceIte, reduceCtorEq, ↓reduceDIte, Nat.reduceLT, Nat.reduceEqDiff, Nat.reduceAdd, Nat.reduceSub, Nat.reduceMul, Nat.reduceLeDiff, Nat.reduceBEq, Nat.reduceBNe, Int.reduceNeg, Int.reduceAdd, Int.reduceSub, Int.reduceToNat, nilTest, shiftH, Blk.ren, V.ren, renL, initV, frameH, putL, frρ, dI, finN_ret, finN_normal, cutK_normal, cutK_ret, cutK_exit, h3, w4, w2]
          refine wloop_ind (σ := Nat × List Int) (fun r => b - r.1) (fun r => [(12, .d (.int .i64 (r.1 : Int))), (9, .d (.int .i64 (i1 : Int))), (10, .d (.int .i64 (5 - ((s + 1 : Nat) : Int)))), (0, .own 0 0 zs.length), (1, .d (.int .i64 a)), (2, .d (.int .i64 b)), (3, .func f (cap.map V.d))]) (fun r => [.dat false 1 (r.2.map dI)]) (fun r => i1 + 1 ≤ r.1 ∧ r.1 ≤ b ∧ r.2.length = zs.length ∧ r.2.Perm zs ∧ Sort.fixUp (ltC c) b i1 us.toArray = Sort.shiftUp (ltC c) b r.1 r.2.toArray) (i1 + 1, us) ⟨by simp, by simp only; omega, hul, hup, hfu⟩ (Weak.trimsM 1 (by simp) rfl (by simp [tget, V.lower, lowerL, lowerL_ds]) (by simp [Blk.lower])) ?_
          rintro ⟨j, vs⟩ ⟨hj, hjb, hvl, hvp, hgx⟩
          simp only at hj hjb hvl hvp hgx
          have hMv : ∀ i v, vs[i]? = some v → M v := fun i v h => hM v (hvp.mem_iff.1 (List.mem_of_getElem? h))
          obtain ⟨jp, rfl⟩ : ∃ jp, j = jp + 1 := ⟨j - 1, by omega⟩
          have v1 : IntKind.i64.wrap (((jp + 1 : Nat) : Int) - 1) = (jp : Int) := by rw [wrap_in (by omega)]; omega
          have v3 : IntKind.i64.wrap (((jp + 1 : Nat) : Int) + 1) = ((jp + 1 + 1 : Nat) : Int) := by rw [wrap_in (by omega)]; omega
          rcases (show (((jp + 1 : Nat) : Int) < (b : Int) ∧ c (vs.getD (jp + 1) 0) (vs.getD jp 0) < 0) ∨ (((jp + 1 : Nat) : Int) < (b : Int) ∧ ¬ c (vs.getD (jp + 1) 0) (vs.getD jp 0) < 0) ∨ ¬ ((jp + 1 : Nat) : Int) < (b : Int) by
            by_cases h1 : ((jp + 1 : Nat) : Int) < (b : Int)
            · by_cases h2 : c (vs.getD (jp + 1) 0) (vs.getD jp 0) < 0
              · exact .inl ⟨h1, h2⟩
              · exact .inr (.inl ⟨h1, h2⟩)
            · exact .inr (.inr h1)) with ⟨v2, hlt⟩ | ⟨v2, hlt⟩ | v2
          · have g1 := getD_some (l := vs) (i := jp + 1) (by omega)
            have g2 := getD_some (l := vs) (i := jp) (by omega)
            have g3 : (vs.set (jp + 1) (vs.getD jp 0))[jp]? = some ((vs.set (jp + 1) (vs.getD jp 0)).getD jp 0) := getD_some (by simp; omega)
            have g4 : (vs.set (jp + 1) (vs.getD jp 0)).set jp (vs.getD (jp + 1) 0) = sw vs (jp + 1) jp := rfl
            rw [up_go (by omega) (by rw [tA_get, tA_get]; exact ltC_t hlt), Nat.add_sub_cancel, tA_swp (by omega) (by omega)] at hgx
            simp (maxSteps := 2000000) -implicitDefEqProofs only [zz, zE, evop, ev, ofVal, tget, tput, ok, V.isUndef, intBin, guardOf, initT, Ch.on, calleeOf, withArgs, told, xport, xports, tids, tidss, hget, hput, Blk.ice, freeze, V.cells, D.cells, V.isAgg, V.one, V.clo, clos, V.toD, loadD, structAt, eqCells, D.scalarEq, sliceOf, partsD, partsV, bound, isPtr, Blk.width, elems, lenOf, splice, D.over, resOf, resV, resVs, ↓reduceIte, reduceCtorEq, ↓reduceDIte, Nat.reduceLT, Nat.reduceEqDiff, Nat.reduceAdd, Nat.reduceSub, Nat.reduceMul, Nat.reduceLeDiff, Nat.reduceBEq, Nat.reduceBNe, Int.reduceNeg, Int.reduceAdd, Int.reduceSub, Int.reduceToNat, nilTest, shiftH, Blk.ren, V.ren, renL, initV, frameH, putL, frρ, dI, finN_ret, finN_normal, cutK_normal, cutK_ret, cutK_exit, v2]
            refine wdraw_plan [⟨[], false, [113, 114, 115, 116, 117, 118, 119, 120, 121], [], false⟩, ⟨[], false, [112, 114, 117, 118, 119, 120, 121], [0], false⟩, ⟨[], false, [112, 113, 117, 118, 119, 120, 121], [0, 1], false⟩, ⟨[1, 2], false, [112, 117, 118, 119, 120, 121], [0], false⟩, ⟨[1, 2, 3], false, [112, 117, 118, 119, 120, 121], [0], false⟩, ⟨[], false, [112, 113, 114, 115, 116, 118, 119], [0, 1, 2, 3, 4], false⟩, ⟨[], false, [112, 113, 114, 115, 116, 117], [0, 1, 2, 3, 4, 5], false⟩, ⟨[6], false, [112, 113, 114, 115, 116, 117], [0, 1, 2, 3, 4, 5], false⟩, ⟨[5, 6, 7], false, [112, 113, 114, 115, 116], [0, 1, 2, 3, 4], false⟩, ⟨[5, 6, 7, 8], false, [112, 113, 114, 115, 116], [0, 1, 2, 3, 4], false⟩, ⟨[0, 1, 2, 3, 4, 5, 6, 7, 8, 9], true, [], [], false⟩, ⟨[0, 1, 2, 3, 4, 5, 6, 7, 8, 9, 10], true, [], [], false⟩, ⟨[0, 1, 2, 3, 4, 5, 6, 7, 8, 9, 10, 11], true, [], [], false⟩] (by decide) ?_
            simp (maxSteps := 2000000) -implicitDefEqProofs only [zz, zE, evop, ev, ofVal, tget, tput, ok, V.isUndef, intBin, guardOf, initT, Ch.on, calleeOf, withArgs, told, xport, xports, tids, tidss, hget, hput, Blk.ice, freeze, V.cells, D.cells, V.isAgg, V.one, V.clo, clos, V.toD, loadD, structAt, eqCells, D.scalarEq, sliceOf, partsD, partsV, bound, isPtr, Blk.width, elems, lenOf, splice, D.over, resOf, resV, resVs, ↓reduceIte, reduceCtorEq, ↓reduceDIte, Nat.reduceLT, Nat.reduceEqDiff, Nat.reduceAdd, Nat.reduceSub, Nat.reduceMul, Nat.reduceLeDiff, Nat.reduceBEq, Nat.reduceBNe, Int.reduceNeg, Int.reduceAdd, Int.reduceSub, Int.reduceToNat, nilTest, shiftH, Blk.ren, V.ren, renL, initV, frameH, putL, frρ, dI, finN_ret, finN_normal, cutK_normal, cutK_ret, cutK_exit, v1, List.getElem?_map, g1, g2, Option.map_some, Int.natCast_nonneg]
            refine ⟨by omega, by omega, ?_⟩
            refine acall_flat (ds := cap.take f.2 ++ (dI (vs.getD (jp + 1) 0) :: dI (vs.getD jp 0) :: cap.drop f.2)) (xports_two cap f.2 _ _ hC.1) (hC.2 _ _ (hMv _ _ g1) (hMv _ _ g2)) rfl ?_
            simp (maxSteps := 2000000) -implicitDefEqProofs only [zz, zE, evop, ev, ofVal, tget, tput, ok, V.isUndef, intBin, guardOf, initT, Ch.on, calleeOf, withArgs, told, xport, xports, tids, tidss, hget, hput, Blk.ice, freeze, V.cells, D.cells, V.isAgg, V.one, V.clo, clos, V.toD, loadD, structAt, eqCells, D.scalarEq, sliceOf, partsD, partsV, bound, isPtr, Blk.width, elems, lenOf, splice, D.over, resOf, resV, resVs, ↓reduceIte, reduceCtorEq, ↓reduceDIte, Nat.reduceLT, Nat.reduceEqDiff, Nat.reduceAdd, Nat.reduceSub, Nat.reduceMul, Nat.reduceLeDiff, Nat.reduceBEq, Nat.reduceBNe, Int.reduceNeg, Int.reduceAdd, Int.reduceSub, Int.reduceToNat, nilTest, shiftH, Blk.ren, V.ren, renL, initV, frameH, putL, frρ, dI, finN_ret, finN_normal, cutK_normal, cutK_ret, cutK_exit, hlt]
            refine wdraw_plan [⟨[], false, [126, 127, 128, 129, 130, 131, 132, 133, 134, 135, 136, 137, 138], [], false⟩, ⟨[], false, [125, 127, 128, 129, 130, 131, 132, 133, 134, 135, 136, 137, 138], [0], false⟩, ⟨[], false, [125, 126, 127, 128, 129, 130, 131, 132, 133, 134, 135, 136, 137, 138, 139, 140], [0, 1], true⟩, ⟨[], false, [125, 126, 127, 128, 129, 130, 131, 132, 133, 134, 135, 136, 137, 138, 139, 140], [0, 1, 2], true⟩, ⟨[3], false, [125, 126, 127, 129, 130, 131, 132, 133, 134, 135, 136, 137, 138, 139, 140], [0, 1, 2], true⟩, ⟨[], false, [125, 126, 127, 128, 129, 131, 132, 135, 136, 137, 138], [0, 1, 2, 3, 4], false⟩, ⟨[], false, [125, 126, 127, 128, 129, 130, 135, 136, 137, 138], [0, 1, 2, 3, 4, 5], false⟩, ⟨[6], false, [125, 126, 127, 128, 129, 130, 135, 136, 137, 138], [0, 1, 2, 3, 4, 5], false⟩, ⟨[5, 6, 7], false, [125, 126, 127, 128, 129, 135, 136, 137, 138], [0, 1, 2, 3, 4], false⟩, ⟨[5, 6, 7, 8], false, [125, 126, 127, 128, 129, 135, 136, 137, 138], [0, 1, 2, 3, 4], false⟩, ⟨[], false, [125, 126, 127, 128, 129, 130, 131, 132, 133, 134, 136], [0, 1, 2, 3, 4, 5, 6, 7, 8, 9], false⟩, ⟨[], false, [125, 126, 127, 128, 129, 130, 131, 132, 133, 134, 135], [0, 1, 2, 3, 4, 5, 6, 7, 8, 9, 10], false⟩, ⟨[10, 11], false, [125, 126, 127, 128, 129, 130, 131, 132, 133, 134], [0, 1, 2, 3, 4, 5, 6, 7, 8, 9], false⟩, ⟨[10, 11, 12], false, [125, 126, 127, 128, 129, 130, 131, 132, 133, 134], [0, 1, 2, 3, 4, 5, 6, 7, 8, 9], false⟩, ⟨[0, 1, 5, 6, 7, 8, 9, 10, 11, 12, 13], false, [127, 128, 129], [2, 3, 4], false⟩, ⟨[0, 1, 5, 6, 7, 8, 9, 10, 11, 12, 13, 14], true, [127, 128, 129], [], false⟩, ⟨[0, 1, 2, 3, 4, 5, 6, 7, 8, 9, 10, 11, 12, 13, 14, 15], true, [], [], false⟩, ⟨[0, 1, 2, 3, 4, 5, 6, 7, 8, 9, 10, 11, 12, 13, 14, 15, 16], true, [], [], false⟩] (by decide) ?_
            simp (maxSteps := 2000000) -implicitDefEqProofs only [zz, zE, evop, ev, ofVal, tget, tput, ok, V.isUndef, intBin, guardOf, initT, Ch.on, calleeOf, withArgs, told, xport, xports, tids, tidss, hget, hput, Blk.ice, freeze, V.cells, D.cells, V.isAgg, V.one, V.clo, clos, V.toD, loadD, structAt, eqCells, D.scalarEq, sliceOf, partsD, partsV, bound, isPtr, Blk.width, elems, lenOf, splice, D.over, resOf, resV, resVs, ↓reduceIte, reduceCtorEq, ↓reduceDIte, Nat.reduceLT, Nat.reduceEqDiff, Nat.reduceAdd, Nat.reduceSub, Nat.reduceMul, Nat.reduceLeDiff, Nat.reduceBEq, Nat.reduceBNe, Int.reduceNeg, Int.reduceAdd, Int.reduceSub, Int.reduceToNat, nilTest, shiftH, Blk.ren, V.ren, renL, initV, frameH, putL, frρ, dI, finN_ret, finN_normal, cutK_normal, cutK_ret, cutK_exit, v1, List.getElem?_map, g1, g2, g3, Option.map_some, Int.natCast_nonneg, set_dI, g4]
            exact ⟨by omega, by omega, by omega, by omega, (jp + 1 + 1, sw vs (jp + 1) jp), ⟨by simp only; omega, by simp only; omega, by rw [sw_len]; exact hvl, (sw_perm vs (by omega) (by omega)).trans hvp, hgx⟩, by simp only; omega, Weak.trimsM 1 (by simp) rfl (by simp [tget, V.lower, lowerL, lowerL_ds]; rw [wrap_in (by omega)]) (by simp [Blk.lower])⟩
          case' inr.inl =>
            have g1 := getD_some (l := vs) (i := jp + 1) (by omega)
            have g2 := getD_some (l := vs) (i := jp) (by omega)
            have hd : decide (c (vs.getD (jp + 1) 0) (vs.getD jp 0) < 0) = false := by simpa using hlt
            rw [up_stop (.inr (by rw [tA_get, tA_get]; exact ltC_f hlt))] at hgx
            simp (maxSteps := 2000000) -implicitDefEqProofs only [zz, zE, evop, ev, ofVal, tget, tput, ok, V.isUndef, intBin, guardOf, initT, Ch.on, calleeOf, withArgs, told, xport, xports, tids, tidss, hget, hput, Blk.ice, freeze, V.cells, D.cells, V.isAgg, V.one, V.clo, clos, V.toD, loadD, structAt, eqCells, D.scalarEq, sliceOf, partsD, partsV, bound, isPtr, Blk.width, elems, lenOf, splice, D.over, resOf, resV, resVs, ↓reduceIte, reduceCtorEq, ↓reduceDIte, Nat.reduceLT, Nat.reduceEqDiff, Nat.reduceAdd, Nat.reduceSub, Nat.reduceMul, Nat.reduceLeDiff, Nat.reduceBEq, Nat.reduceBNe, Int.reduceNeg, Int.reduceAdd, Int.reduceSub, Int.reduceToNat, nilTest, shiftH, Blk.ren, V.ren, renL, initV, frameH, putL, frρ, dI, finN_ret, finN_normal, cutK_normal, cutK_ret, cutK_exit, v2]
            refine wdraw_plan [⟨[], false, [113, 114, 115, 116, 117, 118, 119, 120, 121], [], false⟩, ⟨[], false, [112, 114, 117, 118, 119, 120, 121], [0], false⟩, ⟨[], false, [112, 113, 117, 118, 119, 120, 121], [0, 1], false⟩, ⟨[1, 2], false, [112, 117, 118, 119, 120, 121], [0], false⟩, ⟨[1, 2, 3], false, [112, 117, 118, 119, 120, 121], [0], false⟩, ⟨[], false, [112, 113, 114, 115, 116, 118, 119], [0, 1, 2, 3, 4], false⟩, ⟨[], false, [112, 113, 114, 115, 116, 117], [0, 1, 2, 3, 4, 5], false⟩, ⟨[6], false, [112, 113, 114, 115, 116, 117], [0, 1, 2, 3, 4, 5], false⟩, ⟨[5, 6, 7], false, [112, 113, 114, 115, 116], [0, 1, 2, 3, 4], false⟩, ⟨[5, 6, 7, 8], false, [112, 113, 114, 115, 116], [0, 1, 2, 3, 4], false⟩, ⟨[0, 1, 2, 3, 4, 5, 6, 7, 8, 9], true, [], [], false⟩, ⟨[0, 1, 2, 3, 4, 5, 6, 7, 8, 9, 10], true, [], [], false⟩, ⟨[0, 1, 2, 3, 4, 5, 6, 7, 8, 9, 10, 11], true, [], [], false⟩] (by decide) ?_
            simp (maxSteps := 2000000) -implicitDefEqProofs only [zz, zE, evop, ev, ofVal, tget, tput, ok, V.isUndef, intBin, guardOf, initT, Ch.on, calleeOf, withArgs, told, xport, xports, tids, tidss, hget, hput, Blk.ice, freeze, V.cells, D.cells, V.isAgg, V.one, V.clo, clos, V.toD, loadD, structAt, eqCells, D.scalarEq, sliceOf, partsD, partsV, bound, isPtr, Blk.width, elems, lenOf, splice, D.over, resOf, resV, resVs, ↓reduceIte, reduceCtorEq, ↓reduceDIte, Nat.reduceLT, Nat.reduceEqDiff, Nat.reduceAdd, Nat.reduceSub, Nat.reduceMul, Nat.reduceLeDiff, Nat.reduceBEq, Nat.reduceBNe, Int.reduceNeg, Int.reduceAdd, Int.reduceSub, Int.reduceToNat, nilTest, shiftH, Blk.ren, V.ren, renL, initV, frameH, putL, frρ, dI, finN_ret, finN_normal, cutK_normal, cutK_ret, cutK_exit, v1, List.getElem?_map, g1, g2, Option.map_some, Int.natCast_nonneg]
            refine ⟨by omega, by omega, ?_⟩
            refine acall_flat (ds := cap.take f.2 ++ (dI (vs.getD (jp + 1) 0) :: dI (vs.getD jp 0) :: cap.drop f.2)) (xports_two cap f.2 _ _ hC.1) (hC.2 _ _ (hMv _ _ g1) (hMv _ _ g2)) rfl ?_
            simp (maxSteps := 2000000) -implicitDefEqProofs only [zz, zE, evop, ev, ofVal, tget, tput, ok, V.isUndef, intBin, guardOf, initT, Ch.on, calleeOf, withArgs, told, xport, xports, tids, tidss, hget, hput, Blk.ice, freeze, V.cells, D.cells, V.isAgg, V.one, V.clo, clos, V.toD, loadD, structAt, eqCells, D.scalarEq, sliceOf, partsD, partsV, bound, isPtr, Blk.width, elems, lenOf, splice, D.over, resOf, resV, resVs, ↓reduceIte, reduceCtorEq, ↓reduceDIte, Nat.reduceLT, Nat.reduceEqDiff, Nat.reduceAdd, Nat.reduceSub, Nat.reduceMul, Nat.reduceLeDiff, Nat.reduceBEq, Nat.reduceBNe, Int.reduceNeg, Int.reduceAdd, Int.reduceSub, Int.reduceToNat, nilTest, shiftH, Blk.ren, V.ren, renL, initV, frameH, putL, frρ, dI, finN_ret, finN_normal, cutK_normal, cutK_ret, cutK_exit, hd, e2]
          case' inr.inr =>
            rw [up_stop (.inl (by omega))] at hgx
            simp (maxSteps := 2000000) -implicitDefEqProofs only [zz, zE, evop, ev, ofVal, tget, tput, ok, V.isUndef, intBin, guardOf, initT, Ch.on, calleeOf, withArgs, told, xport, xports, tids, tidss, hget, hput, Blk.ice, freeze, V.cells, D.cells, V.isAgg, V.one, V.clo, clos, V.toD, loadD, structAt, eqCells, D.scalarEq, sliceOf, partsD, partsV, bound, isPtr, Blk.width, elems, lenOf, splice, D.over, resOf, resV, resVs, ↓reduceIte, reduceCtorEq, ↓reduceDIte, Nat.reduceLT, Nat.reduceEqDiff, Nat.reduceAdd, Nat.reduceSub, Nat.reduceMul, Nat.reduceLeDiff, Nat.reduceBEq, Nat.reduceBNe, Int.reduceNeg, Int.reduceAdd, Int.reduceSub, Int.reduceToNat, nilTest, shiftH, Blk.ren, V.ren, renL, initV, frameH, putL, frρ, dI, finN_ret, finN_normal, cutK_normal, cutK_ret, cutK_exit, v2, e2]
        case' neg =>
          have hgx : Sort.fixUp (ltC c) b i1 us.toArray = us.toArray := by unfold Sort.fixUp; rw [if_neg (by omega)]
          simp (maxSteps := 2000000) -implicitDefEqProofs only [zz, zE, evop, ev, ofVal, tget, tput, ok, V.isUndef, intBin, guardOf, initT, Ch.on, calleeOf, withArgs, told, xport, xports, tids, tidss, hget, hput, Blk.ice, freeze, V.cells, D.cells, V.isAgg, V.one, V.clo, clos, V.toD, loadD, structAt, eqCells, D.scalarEq, sliceOf, partsD, partsV, bound, isPtr, Blk.width, elems, lenOf, splice, D.over, resOf, resV, resVs, ↓reduceIte, reduceCtorEq, ↓reduceDIte, Nat.reduceLT, Nat.reduceEqDiff, Nat.reduceAdd, Nat.reduceSub, Nat.reduceMul, Nat.reduceLeDiff, Nat.reduceBEq, Nat.reduceBNe, Int.reduceNeg, Int.reduceAdd, Int.reduceSub, Int.reduceToNat, nilTest, shiftH, Blk.ren, V.ren, renL, initV, frameH, putL, frρ, dI, finN_ret, finN_normal, cutK_normal, cutK_ret, cutK_exit, h3, w4, e2]
          obtain ⟨vs, hvs⟩ : ∃ vs, vs = us := ⟨_, rfl⟩
          rw [← hvs]
          have hvl : vs.length = zs.length := by rw [hvs]; exact hul
          have hvp : vs.Perm zs := by rw [hvs]; exact hup
          rw [← hvs] at hgx
        all_goals
          rw [hgx]
          exact ⟨(s, i1, vs), ⟨by simp only; omega, by simp only; omega, by simp only; omega, hvl, hvp, rfl⟩, by simp only; omega, Weak.trimsM 1 (by simp) rfl (by simp [tget, V.lower, lowerL, lowerL_ds]) (by simp [Blk.lower])⟩
    case' inr.inr =>
      have hib : i1 = b := by omega
      rw [scan_stop (.inl (by omega)), if_pos hib]
      have hne : ((i1 : Int) == (b : Int)) = true := by simp; omega
      refine wdraw_plan [⟨[], false, [20], [], false⟩, ⟨[], false, [19], [0], false⟩, ⟨[0, 1], true, [], [], false⟩, ⟨[0, 1, 2], true, [], [], false⟩, ⟨[0, 1, 2, 3], false, [24, 25, 26, 27, 28, 29, 30, 31, 32], [], false⟩, ⟨[0, 1, 2, 3], false, [23, 25, 28, 29, 30, 31, 32], [4], false⟩, ⟨[0, 1, 2, 3], false, [23, 24, 28, 29, 30, 31, 32], [4, 5], false⟩, ⟨[0, 1, 2, 3, 5, 6], false, [23, 28, 29, 30, 31, 32], [4], false⟩, ⟨[0, 1, 2, 3, 5, 6, 7], false, [23, 28, 29, 30, 31, 32], [4], false⟩, ⟨[0, 1, 2, 3], false, [23, 24, 25, 26, 27, 29, 30], [4, 5, 6, 7, 8], false⟩, ⟨[0, 1, 2, 3], false, [23, 24, 25, 26, 27, 28], [4, 5, 6, 7, 8, 9], false⟩, ⟨[0, 1, 2, 3, 10], false, [23, 24, 25, 26, 27, 28], [4, 5, 6, 7, 8, 9], false⟩, ⟨[0, 1, 2, 3, 9, 10, 11], false, [23, 24, 25, 26, 27], [4, 5, 6, 7, 8], false⟩, ⟨[0, 1, 2, 3, 9, 10, 11, 12], false, [23, 24, 25, 26, 27], [4, 5, 6, 7, 8], false⟩, ⟨[0, 1, 2, 3, 4, 5, 6, 7, 8, 9, 10, 11, 12, 13], false, [], [], false⟩, ⟨[0, 1, 2, 3, 4, 5, 6, 7, 8, 9, 10, 11, 12, 13, 14], false, [], [], false⟩, ⟨[0, 1, 2, 3, 4, 5, 6, 7, 8, 9, 10, 11, 12, 13, 14, 15], false, [], [], false⟩, ⟨[0, 1, 2, 3, 4, 5, 6, 7, 8, 9, 10, 11, 12, 13, 14, 15, 16], true, [], [], false⟩] (by decide) ?_
      simp (maxSteps := 2000000) -implicitDefEqProofs only [zz, zE, evop, ev, ofVal, tget, tput, ok, V.isUndef, intBin, guardOf, initT, Ch.on, calleeOf, withArgs, told, xport, xports, tids, tidss, hget, hput, Blk.ice, freeze, V.cells, D.cells, V.isAgg, V.one, V.clo, clos, V.toD, loadD, structAt, eqCells, D.scalarEq, sliceOf, partsD, partsV, bound, isPtr, Blk.width, elems, lenOf, splice, D.over, resOf, resV, resVs, ↓reduceIte, reduceCtorEq, ↓reduceDIte, Nat.reduceLT, Nat.reduceEqDiff, Nat.reduceAdd, Nat.reduceSub, Nat.reduceMul, Nat.reduceLeDiff, Nat.reduceBEq, Nat.reduceBNe, Int.reduceNeg, Int.reduceAdd, Int.reduceSub, Int.reduceToNat, nilTest, shiftH, Blk.ren, V.ren, renL, initV, frameH, putL, frρ, dI, finN_ret, finN_normal, cutK_normal, cutK_ret, cutK_exit, hij, hne]
      exact ⟨_, _, ⟨true, ys, rfl, rfl, rfl⟩, Weak.trimsM 1 (by simp) rfl (by simp [tget, V.lower, lowerL, lowerL_ds]) (by simp [Blk.lower])⟩

theorem n_pins_sorts (hS : Sort.SWO (ltC c)) (a b : Nat) (hab : a < b) (hb : b ≤ zs.length) (hB : Sort.Below (ltC c) a b zs.toArray) :
    NSpec Try.prog 89 [.own 0 0 zs.length, .d (.int .i64 a), .d (.int .i64 b), .func f (cap.map V.d)] [.dat false 1 (zs.map dI)]
      (OutBo (fun h zs' => PS a b zs zs' ∧ (h = true → SoIn c a b zs'))) := by
  refine NSpec.weak (n_pins hC zs hM hl a b hab hb) ?_
  rintro _ _ ⟨h, zs', rfl, rfl, he⟩
  obtain ⟨h1, h2⟩ := Sort.partialInsertionSort_holds (lt := ltC c) hS zs.toArray a b hab (by simpa using hb) hB
  rw [← he] at h1 h2
  exact ⟨h, zs', rfl, rfl, .of_perm (by omega) hb h1, fun e => .of (h2 e)⟩
end
end Go.Proofs.Ythpapgbpmkgfeaa.AM

/- Sorting parts: the patterns broken. -/
set_option linter.all false
set_option maxRecDepth 100000
set_option maxHeartbeats 8000000
namespace Go.Proofs.Ythpapgbpmkgfeaa.AM
open Go Go.RowKit

theorem bitLen_pow : ∀ (n x : Nat), x = n → 0 < x → x < 2 ^ 64 → x < 2 ^ (Lib.bitLen x) ∧ 2 ^ (Lib.bitLen x) ≤ 2 * x := by
  intro n
  induction n using Nat.strongRecOn with
  | _ n ih =>
    intro x hx h0 h1
    have h := Lib.bitLen_half x (by omega) h1
    by_cases h2 : x = 1
    · subst h2; decide
    · obtain ⟨e1, e2⟩ := ih (x / 2) (by omega) (x / 2) rfl (by omega) (by omega)
      rw [h, Nat.add_comm, Nat.pow_succ]
      omega

theorem bits_u64_rng (op : BinOp) (x y : Int) : 0 ≤ bits op .u64 x y ∧ bits op .u64 x y < 18446744073709551616 := by
  unfold bits
  rw [IntKind.wrap_u64]
  omega

theorem c_npow (n : Nat) (h0 : 0 < n) (h1 : n ≤ 1000000) : CSpec Try.prog 96 [.int .i64 n] (.int .u64 ((2 ^ (Lib.bitLen n) : Nat) : Int)) := by
  refine CSpec.of_awp envOf_ok hmix Try.func96 rfl (fun args w => Try.call96 args w) (by simp [Try.f96]) ?_
  simp only [Try.f96]
  simp (maxSteps := 2000000) -implicitDefEqProofs only [zz, zE, evop, ev, ofVal, tget, tput, ok, V.isUndef, intBin, guardOf, initT, Ch.on, calleeOf, withArgs, told, xport, xports, tids, tidss, hget, hput, Blk.ice, freeze, V.cells, D.cells, V.isAgg, V.one, V.clo, clos, V.toD, loadD, structAt, eqCells, D.scalarEq, sliceOf, partsD, partsV, bound, isPtr, Blk.width, elems, lenOf, splice, D.over, resOf, resV, resVs, ↓reduceIte, reduceCtorEq, ↓reduceDIte, Nat.reduceLT, Nat.reduceEqDiff, Nat.reduceAdd, Nat.reduceSub, Nat.reduceMul, Nat.reduceLeDiff, Nat.reduceBEq, Nat.reduceBNe, Int.reduceNeg, Int.reduceAdd, Int.reduceSub, Int.reduceToNat, nilTest, shiftH, Blk.ren, V.ren, renL, initV, frameH, putL, frρ, dI, finN_ret, finN_normal, cutK_normal, cutK_ret, cutK_exit]
  have hw : IntKind.u64.wrap (n : Int) = (n : Int) := by rw [IntKind.wrap_u64]; omega
  have hp := bitLen_pow n n rfl h0 (by omega)
  have hb : Lib.bitLen n ≤ 64 := by
    refine Classical.byContradiction fun h => ?_
    have := Nat.pow_le_pow_right (show 0 < 2 by decide) (show 65 ≤ Lib.bitLen n by omega)
    omega
  rw [hw]
  refine acall_flat (by first | rfl | (simp only [xports, xport, hget]; rfl)) (c_bitsLen n (by omega) (by omega)) rfl ?_
  try simp (maxSteps := 2000000) -implicitDefEqProofs only [zz, zE, evop, ev, ofVal, tget, tput, ok, V.isUndef, intBin, guardOf, initT, Ch.on, calleeOf, withArgs, told, xport, xports, tids, tidss, hget, hput, Blk.ice, freeze, V.cells, D.cells, V.isAgg, V.one, V.clo, clos, V.toD, loadD, structAt, eqCells, D.scalarEq, sliceOf, partsD, partsV, bound, isPtr, Blk.width, elems, lenOf, splice, D.over, resOf, resV, resVs, ↓reduceIte, reduceCtorEq, ↓reduceDIte, Nat.reduceLT, Nat.reduceEqDiff, Nat.reduceAdd, Nat.reduceSub, Nat.reduceMul, Nat.reduceLeDiff, Nat.reduceBEq, Nat.reduceBNe, Int.reduceNeg, Int.reduceAdd, Int.reduceSub, Int.reduceToNat, nilTest, shiftH, Blk.ren, V.ren, renL, initV, frameH, putL, frρ, dI, finN_ret, finN_normal, cutK_normal, cutK_ret, cutK_exit]
  have hv : IntKind.u64.wrap (1 * 2 ^ (Lib.bitLen n)) = ((2 ^ (Lib.bitLen n) : Nat) : Int) := by
    rw [Int.one_mul, show (2 : Int) ^ (Lib.bitLen n) = ((2 ^ (Lib.bitLen n) : Nat) : Int) by simp, IntKind.wrap_u64]
    omega
  have hbb : IntKind.u64.bits = 64 := rfl
  rw [hbb]
  simp (maxSteps := 2000000) -implicitDefEqProofs only [zz, zE, evop, ev, ofVal, tget, tput, ok, V.isUndef, intBin, guardOf, initT, Ch.on, calleeOf, withArgs, told, xport, xports, tids, tidss, hget, hput, Blk.ice, freeze, V.cells, D.cells, V.isAgg, V.one, V.clo, clos, V.toD, loadD, structAt, eqCells, D.scalarEq, sliceOf, partsD, partsV, bound, isPtr, Blk.width, elems, lenOf, splice, D.over, resOf, resV, resVs, ↓reduceIte, reduceCtorEq, ↓reduceDIte, Nat.reduceLT, Nat.reduceEqDiff, Nat.reduceAdd, Nat.reduceSub, Nat.reduceMul, Nat.reduceLeDiff, Nat.reduceBEq, Nat.reduceBNe, Int.reduceNeg, Int.reduceAdd, Int.reduceSub, Int.reduceToNat, nilTest, shiftH, Blk.ren, V.ren, renL, initV, frameH, putL, frρ, dI, finN_ret, finN_normal, cutK_normal, cutK_ret, cutK_exit, hv, Int.toNat_natCast]
  exact ⟨by omega, by omega⟩

theorem n_next (r : Int) : NSpec Try.prog 97 [.ptr 0 0 0] [.box false [.d (.int .u64 r)]] (fun x H => ∃ r' : Int, 0 ≤ r' ∧ r' < 18446744073709551616 ∧ x = .d (.int .u64 r') ∧ H = [.box false [.d (.int .u64 r')]]) := by
  refine NSpec.of_awp envOf_ok hmix Try.func97 rfl (fun args w => Try.call97 args w) (by simp [Try.f97]) ?_
  simp only [Try.f97]
  simp (maxSteps := 2000000) -implicitDefEqProofs only [zz, zE, evop, ev, ofVal, tget, tput, ok, V.isUndef, intBin, guardOf, initT, Ch.on, calleeOf, withArgs, told, xport, xports, tids, tidss, hget, hput, Blk.ice, freeze, V.cells, D.cells, V.isAgg, V.one, V.clo, clos, V.toD, loadD, structAt, eqCells, D.scalarEq, sliceOf, partsD, partsV, bound, isPtr, Blk.width, elems, lenOf, splice, D.over, resOf, resV, resVs, ↓reduceIte, reduceCtorEq, ↓reduceDIte, Nat.reduceLT, Nat.reduceEqDiff, Nat.reduceAdd, Nat.reduceSub, Nat.reduceMul, Nat.reduceLeDiff, Nat.reduceBEq, Nat.reduceBNe, Int.reduceNeg, Int.reduceAdd, Int.reduceSub, Int.reduceToNat, nilTest, shiftH, Blk.ren, V.ren, renL, initV, frameH, putL, frρ, dI, finN_ret, finN_normal, cutK_normal, cutK_ret, cutK_exit]
  refine wdraw_plan [⟨[], false, [6, 7, 8, 9], [], false⟩, ⟨[0], false, [6, 7, 8, 9], [], false⟩, ⟨[0, 1], false, [6, 7, 8, 9], [], false⟩, ⟨[], false, [3, 4, 5], [0, 1, 2], false⟩, ⟨[3], false, [3, 4, 5], [0, 1, 2], false⟩, ⟨[3, 4], false, [3, 4, 5], [0, 1, 2], false⟩, ⟨[3, 4, 5], false, [3, 4, 5], [0, 1, 2], false⟩, ⟨[0, 1, 2, 3, 4, 5, 6], true, [], [], false⟩, ⟨[0, 1, 2, 3, 4, 5, 6, 7], true, [], [], false⟩, ⟨[0, 1, 2, 3, 4, 5, 6, 7, 8], true, [], [], false⟩] (by decide) ?_
  simp (maxSteps := 2000000) -implicitDefEqProofs only [zz, zE, evop, ev, ofVal, tget, tput, ok, V.isUndef, intBin, guardOf, initT, Ch.on, calleeOf, withArgs, told, xport, xports, tids, tidss, hget, hput, Blk.ice, freeze, V.cells, D.cells, V.isAgg, V.one, V.clo, clos, V.toD, loadD, structAt, eqCells, D.scalarEq, sliceOf, partsD, partsV, bound, isPtr, Blk.width, elems, lenOf, splice, D.over, resOf, resV, resVs, ↓reduceIte, reduceCtorEq, ↓reduceDIte, Nat.reduceLT, Nat.reduceEqDiff, Nat.reduceAdd, Nat.reduceSub, Nat.reduceMul, Nat.reduceLeDiff, Nat.reduceBEq, Nat.reduceBNe, Int.reduceNeg, Int.reduceAdd, Int.reduceSub, Int.reduceToNat, nilTest, shiftH, Blk.ren, V.ren, renL, initV, frameH, putL, frρ, dI, finN_ret, finN_normal, cutK_normal, cutK_ret, cutK_exit]
  refine ⟨by decide, ?_⟩
  refine wdraw_plan [⟨[], false, [15, 16, 17, 18], [], false⟩, ⟨[0], false, [15, 16, 17, 18], [], false⟩, ⟨[0, 1], false, [15, 16, 17, 18], [], false⟩, ⟨[], false, [12, 13, 14], [0, 1, 2], false⟩, ⟨[3], false, [12, 13, 14], [0, 1, 2], false⟩, ⟨[3, 4], false, [12, 13, 14], [0, 1, 2], false⟩, ⟨[3, 4, 5], false, [12, 13, 14], [0, 1, 2], false⟩, ⟨[0, 1, 2, 3, 4, 5, 6], true, [], [], false⟩, ⟨[0, 1, 2, 3, 4, 5, 6, 7], true, [], [], false⟩, ⟨[0, 1, 2, 3, 4, 5, 6, 7, 8], true, [], [], false⟩] (by decide) ?_
  simp (maxSteps := 2000000) -implicitDefEqProofs only [zz, zE, evop, ev, ofVal, tget, tput, ok, V.isUndef, intBin, guardOf, initT, Ch.on, calleeOf, withArgs, told, xport, xports, tids, tidss, hget, hput, Blk.ice, freeze, V.cells, D.cells, V.isAgg, V.one, V.clo, clos, V.toD, loadD, structAt, eqCells, D.scalarEq, sliceOf, partsD, partsV, bound, isPtr, Blk.width, elems, lenOf, splice, D.over, resOf, resV, resVs, ↓reduceIte, reduceCtorEq, ↓reduceDIte, Nat.reduceLT, Nat.reduceEqDiff, Nat.reduceAdd, Nat.reduceSub, Nat.reduceMul, Nat.reduceLeDiff, Nat.reduceBEq, Nat.reduceBNe, Int.reduceNeg, Int.reduceAdd, Int.reduceSub, Int.reduceToNat, nilTest, shiftH, Blk.ren, V.ren, renL, initV, frameH, putL, frρ, dI, finN_ret, finN_normal, cutK_normal, cutK_ret, cutK_exit]
  refine ⟨by decide, ?_⟩
  refine wdraw_plan [⟨[], false, [24, 25, 26, 27], [], false⟩, ⟨[0], false, [24, 25, 26, 27], [], false⟩, ⟨[0, 1], false, [24, 25, 26, 27], [], false⟩, ⟨[], false, [21, 22, 23], [0, 1, 2], false⟩, ⟨[3], false, [21, 22, 23], [0, 1, 2], false⟩, ⟨[3, 4], false, [21, 22, 23], [0, 1, 2], false⟩, ⟨[3, 4, 5], false, [21, 22, 23], [0, 1, 2], false⟩, ⟨[0, 1, 2, 3, 4, 5, 6], true, [], [], false⟩, ⟨[0, 1, 2, 3, 4, 5, 6, 7], true, [], [], false⟩, ⟨[0, 1, 2, 3, 4, 5, 6, 7, 8], true, [], [], false⟩] (by decide) ?_
  simp (maxSteps := 2000000) -implicitDefEqProofs only [zz, zE, evop, ev, ofVal, tget, tput, ok, V.isUndef, intBin, guardOf, initT, Ch.on, calleeOf, withArgs, told, xport, xports, tids, tidss, hget, hput, Blk.ice, freeze, V.cells, D.cells, V.isAgg, V.one, V.clo, clos, V.toD, loadD, structAt, eqCells, D.scalarEq, sliceOf, partsD, partsV, bound, isPtr, Blk.width, elems, lenOf, splice, D.over, resOf, resV, resVs, ↓reduceIte, reduceCtorEq, ↓reduceDIte, Nat.reduceLT, Nat.reduceEqDiff, Nat.reduceAdd, Nat.reduceSub, Nat.reduceMul, Nat.reduceLeDiff, Nat.reduceBEq, Nat.reduceBNe, Int.reduceNeg, Int.reduceAdd, Int.reduceSub, Int.reduceToNat, nilTest, shiftH, Blk.ren, V.ren, renL, initV, frameH, putL, frρ, dI, finN_ret, finN_normal, cutK_normal, cutK_ret, cutK_exit]
  refine ⟨by decide, ?_⟩
  refine ⟨_, _, ⟨_, ?_, ?_, rfl, rfl⟩, Weak.trimsM 1 (by simp) rfl (by simp [tget, V.lower, lowerL, lowerL_ds]) (by simp [Blk.lower, V.lower, lowerL])⟩
  · exact (bits_u64_rng _ _ _).1
  · exact (bits_u64_rng _ _ _).2

theorem n_break (zs : List Int) (hl : zs.length ≤ 1000000) (a b : Nat) (hab : a ≤ b) (hb : b ≤ zs.length) (f : Nat × Nat) (cap : List D) :
    NSpec Try.prog 86 [.own 0 0 zs.length, .d (.int .i64 a), .d (.int .i64 b), .func f (cap.map V.d)] [.dat false 1 (zs.map dI)] (OutL (PS a b zs)) := by
  refine NSpec.of_awp envOf_ok hmix Try.func86 rfl (fun args w => Try.call86 args w) (by simp [Try.f86]) ?_
  simp only [Try.f86]
  simp (maxSteps := 2000000) -implicitDefEqProofs only [zz, zE, evop, ev, ofVal, tget, tput, ok, V.isUndef, intBin, guardOf, initT, Ch.on, calleeOf, withArgs, told, xport, xports, tids, tidss, hget, hput, Blk.ice, freeze, V.cells, D.cells, V.isAgg, V.one, V.clo, clos, V.toD, loadD, structAt, eqCells, D.scalarEq, sliceOf, partsD, partsV, bound, isPtr, Blk.width, elems, lenOf, splice, D.over, resOf, resV, resVs, ↓reduceIte, reduceCtorEq, ↓reduceDIte, Nat.reduceLT, Nat.reduceEqDiff, Nat.reduceAdd, Nat.reduceSub, Nat.reduceMul, Nat.reduceLeDiff, Nat.reduceBEq, Nat.reduceBNe, Int.reduceNeg, Int.reduceAdd, Int.reduceSub, Int.reduceToNat, nilTest, shiftH, Blk.ren, V.ren, renL, initV, frameH, putL, frρ, dI, finN_ret, finN_normal, cutK_normal, cutK_ret, cutK_exit]
  obtain ⟨n, hn⟩ : ∃ n, n = b - a := ⟨_, rfl⟩
  obtain ⟨q, hq⟩ : ∃ q, q = n / 4 := ⟨_, rfl⟩
  have w1 : IntKind.i64.wrap ((b : Int) - (a : Int)) = (n : Int) := by rw [wrap_in (by omega)]; omega
  by_cases h8 : (n : Int) ≥ 8
  · have w2 : IntKind.u64.wrap (n : Int) = (n : Int) := by rw [IntKind.wrap_u64]; omega
    have w3 : (n : Int).tdiv 4 = (q : Int) := by rw [Int.tdiv_eq_ediv_of_nonneg (by omega)]; omega
    have w3b : IntKind.i64.wrap (q : Int) = (q : Int) := by rw [wrap_in (by omega)]
    have w4 : IntKind.i64.wrap ((q : Int) * 2) = ((2 * q : Nat) : Int) := by rw [wrap_in (by omega)]; omega
    have w5 : IntKind.i64.wrap ((a : Int) + ((2 * q : Nat) : Int)) = ((a + 2 * q : Nat) : Int) := by rw [wrap_in (by omega)]; omega
    have w6 : IntKind.i64.wrap (((a + 2 * q : Nat) : Int) - 1) = ((a + 2 * q - 1 : Nat) : Int) := by rw [wrap_in (by omega)]; omega
    have w7 : IntKind.i64.wrap (((a + 2 * q : Nat) : Int) + 1) = ((a + 2 * q + 1 : Nat) : Int) := by rw [wrap_in (by omega)]; omega
    obtain ⟨hp1, hp2⟩ := bitLen_pow n n rfl (by omega) (by omega)
    have hc := c_npow n (by omega) (by omega)
    obtain ⟨B, hB⟩ : ∃ B, B = Lib.bitLen n := ⟨_, rfl⟩
    rw [← hB] at hp1 hp2 hc
    simp (maxSteps := 2000000) -implicitDefEqProofs only [zz, zE, evop, ev, ofVal, tget, tput, ok, V.isUndef, intBin, guardOf, initT, Ch.on, calleeOf, withArgs, told, xport, xports, tids, tidss, hget, hput, Blk.ice, freeze, V.cells, D.cells, V.isAgg, V.one, V.clo, clos, V.toD, loadD, structAt, eqCells, D.scalarEq, sliceOf, partsD, partsV, bound, isPtr, Blk.width, elems, lenOf, splice, D.over, resOf, resV, resVs, ↓reduceIte, reduceCtorEq, ↓reduceDIte, Nat.reduceLT, Nat.reduceEqDiff, Nat.reduceAdd, Nat.reduceSub, Nat.reduceMul, Nat.reduceLeDiff, Nat.reduceBEq, Nat.reduceBNe, Int.reduceNeg, Int.reduceAdd, Int.reduceSub, Int.reduceToNat, nilTest, shiftH, Blk.ren, V.ren, renL, initV, frameH, putL, frρ, dI, finN_ret, finN_normal, cutK_normal, cutK_ret, cutK_exit, w1, h8, w2]
    refine acall_flat (by first | rfl | (simp only [xports, xport, hget]; rfl)) (hc) rfl ?_
    try simp (maxSteps := 2000000) -implicitDefEqProofs only [zz, zE, evop, ev, ofVal, tget, tput, ok, V.isUndef, intBin, guardOf, initT, Ch.on, calleeOf, withArgs, told, xport, xports, tids, tidss, hget, hput, Blk.ice, freeze, V.cells, D.cells, V.isAgg, V.one, V.clo, clos, V.toD, loadD, structAt, eqCells, D.scalarEq, sliceOf, partsD, partsV, bound, isPtr, Blk.width, elems, lenOf, splice, D.over, resOf, resV, resVs, ↓reduceIte, reduceCtorEq, ↓reduceDIte, Nat.reduceLT, Nat.reduceEqDiff, Nat.reduceAdd, Nat.reduceSub, Nat.reduceMul, Nat.reduceLeDiff, Nat.reduceBEq, Nat.reduceBNe, Int.reduceNeg, Int.reduceAdd, Int.reduceSub, Int.reduceToNat, nilTest, shiftH, Blk.ren, V.ren, renL, initV, frameH, putL, frρ, dI, finN_ret, finN_normal, cutK_normal, cutK_ret, cutK_exit]
    simp (maxSteps := 2000000) -implicitDefEqProofs only [zz, zE, evop, ev, ofVal, tget, tput, ok, V.isUndef, intBin, guardOf, initT, Ch.on, calleeOf, withArgs, told, xport, xports, tids, tidss, hget, hput, Blk.ice, freeze, V.cells, D.cells, V.isAgg, V.one, V.clo, clos, V.toD, loadD, structAt, eqCells, D.scalarEq, sliceOf, partsD, partsV, bound, isPtr, Blk.width, elems, lenOf, splice, D.over, resOf, resV, resVs, ↓reduceIte, reduceCtorEq, ↓reduceDIte, Nat.reduceLT, Nat.reduceEqDiff, Nat.reduceAdd, Nat.reduceSub, Nat.reduceMul, Nat.reduceLeDiff, Nat.reduceBEq, Nat.reduceBNe, Int.reduceNeg, Int.reduceAdd, Int.reduceSub, Int.reduceToNat, nilTest, shiftH, Blk.ren, V.ren, renL, initV, frameH, putL, frρ, dI, finN_ret, finN_normal, cutK_normal, cutK_ret, cutK_exit, w3, w3b, w4, w5, w6]
    refine ⟨by omega, ?_⟩
    obtain ⟨ba, hba⟩ : ∃ ba, ba = a + 2 * q - 1 := ⟨_, rfl⟩
    rw [← hba]
    refine wloop_ind (σ := Nat × Int × List Int) (fun s => 3 - s.1) (fun s => [(11, .d (.int .i64 ((ba + s.1 : Nat) : Int))), (9, .ptr 1 0 0), (10, .d (.int .u64 ((2 ^ B : Nat) : Int))), (8, .d (.int .i64 n)), (0, .own 0 0 zs.length), (1, .d (.int .i64 a))]) (fun s => [.dat false 1 (s.2.2.map dI), .box false [.d (.int .u64 s.2.1)]]) (fun s => s.1 ≤ 3 ∧ PS a b zs s.2.2) (0, _, zs) ⟨by simp, PS.refl hab hb⟩ (Weak.sub (by simp [tget])) ?_
    rintro ⟨i, r, ys⟩ ⟨hi, hP⟩
    simp only at hi hP
    have hyl := hP.len
    by_cases h3 : ((ba + i : Nat) : Int) ≤ ((a + 2 * q + 1 : Nat) : Int)
    · simp (maxSteps := 2000000) -implicitDefEqProofs only [zz, zE, evop, ev, ofVal, tget, tput, ok, V.isUndef, intBin, guardOf, initT, Ch.on, calleeOf, withArgs, told, xport, xports, tids, tidss, hget, hput, Blk.ice, freeze, V.cells, D.cells, V.isAgg, V.one, V.clo, clos, V.toD, loadD, structAt, eqCells, D.scalarEq, sliceOf, partsD, partsV, bound, isPtr, Blk.width, elems, lenOf, splice, D.over, resOf, resV, resVs, ↓reduceIte, reduceCtorEq, ↓reduceDIte, Nat.reduceLT, Nat.reduceEqDiff, Nat.reduceAdd, Nat.reduceSub, Nat.reduceMul, Nat.reduceLeDiff, Nat.reduceBEq, Nat.reduceBNe, Int.reduceNeg, Int.reduceAdd, Int.reduceSub, Int.reduceToNat, nilTest, shiftH, Blk.ren, V.ren, renL, initV, frameH, putL, frρ, dI, finN_ret, finN_normal, cutK_normal, cutK_ret, cutK_exit, w3, w3b, w4, w5, w7, h3]
      refine ⟨by omega, ?_⟩
      refine acall_refN [1] (n_next r) (by first | rfl | simp [renL, V.ren, frρ, renL_ds]) (by simp) rfl (by first | (rintro _ _ ⟨_, rfl, rfl, _⟩; simp; done) | (rintro _ _ ⟨_, _, rfl, rfl, _⟩; simp; done) | (rintro _ _ ⟨_, _, _, rfl, rfl, _⟩; simp; done) | (rintro _ _ ⟨_, _, _, rfl, rfl⟩; simp; done)) (by simp) (by intro j hj; match j, hj with | 0, _ => exact ⟨by simp [hget], rfl⟩) ?_
      rintro _ _ ⟨r', h0, h1, rfl, rfl⟩
      have w8 : IntKind.u64.wrap (((2 ^ B : Nat) : Int) - 1) = (2 : Int) ^ B - 1 := by
        rw [show (2 : Int) ^ B = ((2 ^ B : Nat) : Int) by simp, IntKind.wrap_u64]; omega
      obtain ⟨o, ho⟩ : ∃ o : Nat, o = r'.toNat % 2 ^ B := ⟨_, rfl⟩
      have hB64 : B ≤ 64 := by
        refine Classical.byContradiction fun h => ?_
        have := Nat.pow_le_pow_right (show 0 < 2 by decide) (show 65 ≤ B by omega)
        omega
      have w9 : bits .and .u64 r' ((2 : Int) ^ B - 1) = (o : Int) := by
        rw [bits_mask .u64 64 (by decide) (fun n h0 h1 => by rw [IntKind.wrap_u64]; omega) B hB64 r' h0 (by omega), ho]
        rw [Int.natCast_emod, Int.toNat_of_nonneg h0]; simp
      have hom : o < 2 ^ B := by rw [ho]; exact Nat.mod_lt _ (by omega)
      have w10 : IntKind.i64.wrap (o : Int) = (o : Int) := by rw [wrap_in (by omega)]
      by_cases h4 : (o : Int) ≥ (n : Int)
      case' pos =>
        have w11 : IntKind.i64.wrap ((o : Int) - (n : Int)) = ((o - n : Nat) : Int) := by rw [wrap_in (by omega)]; omega
        simp (maxSteps := 2000000) -implicitDefEqProofs only [zz, zE, evop, ev, ofVal, tget, tput, ok, V.isUndef, intBin, guardOf, initT, Ch.on, calleeOf, withArgs, told, xport, xports, tids, tidss, hget, hput, Blk.ice, freeze, V.cells, D.cells, V.isAgg, V.one, V.clo, clos, V.toD, loadD, structAt, eqCells, D.scalarEq, sliceOf, partsD, partsV, bound, isPtr, Blk.width, elems, lenOf, splice, D.over, resOf, resV, resVs, ↓reduceIte, reduceCtorEq, ↓reduceDIte, Nat.reduceLT, Nat.reduceEqDiff, Nat.reduceAdd, Nat.reduceSub, Nat.reduceMul, Nat.reduceLeDiff, Nat.reduceBEq, Nat.reduceBNe, Int.reduceNeg, Int.reduceAdd, Int.reduceSub, Int.reduceToNat, nilTest, shiftH, Blk.ren, V.ren, renL, initV, frameH, putL, frρ, dI, finN_ret, finN_normal, cutK_normal, cutK_ret, cutK_exit, w8, w9, w10, w11, h4]
        obtain ⟨ot, hot⟩ : ∃ ot, ot = o - n := ⟨_, rfl⟩
        rw [← hot]
        have hob : ot < n := by omega
      case' neg =>
        simp (maxSteps := 2000000) -implicitDefEqProofs only [zz, zE, evop, ev, ofVal, tget, tput, ok, V.isUndef, intBin, guardOf, initT, Ch.on, calleeOf, withArgs, told, xport, xports, tids, tidss, hget, hput, Blk.ice, freeze, V.cells, D.cells, V.isAgg, V.one, V.clo, clos, V.toD, loadD, structAt, eqCells, D.scalarEq, sliceOf, partsD, partsV, bound, isPtr, Blk.width, elems, lenOf, splice, D.over, resOf, resV, resVs, ↓reduceIte, reduceCtorEq, ↓reduceDIte, Nat.reduceLT, Nat.reduceEqDiff, Nat.reduceAdd, Nat.reduceSub, Nat.reduceMul, Nat.reduceLeDiff, Nat.reduceBEq, Nat.reduceBNe, Int.reduceNeg, Int.reduceAdd, Int.reduceSub, Int.reduceToNat, nilTest, shiftH, Blk.ren, V.ren, renL, initV, frameH, putL, frρ, dI, finN_ret, finN_normal, cutK_normal, cutK_ret, cutK_exit, w8, w9, w10, h4]
        obtain ⟨ot, hot⟩ : ∃ ot, ot = o := ⟨_, rfl⟩
        rw [← hot]
        have hob : ot < n := by omega
      all_goals
        have w12 : IntKind.i64.wrap ((a : Int) + (ot : Int)) = ((a + ot : Nat) : Int) := by rw [wrap_in (by omega)]; omega
        have w13 : IntKind.i64.wrap (((ba + i : Nat) : Int) + 1) = ((ba + (i + 1) : Nat) : Int) := by rw [wrap_in (by omega)]; omega
        have g1 := getD_some (l := ys) (i := ba + i) (by omega)
        have g2 := getD_some (l := ys) (i := a + ot) (by omega)
        have g3 : (ys.set (ba + i) (ys.getD (a + ot) 0))[a + ot]? = some ((ys.set (ba + i) (ys.getD (a + ot) 0)).getD (a + ot) 0) := getD_some (by simp; omega)
        have g4 : (ys.set (ba + i) (ys.getD (a + ot) 0)).set (a + ot) (ys.getD (ba + i) 0) = sw ys (ba + i) (a + ot) := rfl
        refine wdraw_plan [⟨[], false, [50, 51, 52, 53, 54, 55, 56, 57, 58, 59, 60, 61, 62, 63, 64], [], false⟩, ⟨[], false, [49, 51, 52, 53, 54, 55, 56, 57, 58, 59, 60, 61, 62, 63, 64], [0], false⟩, ⟨[], false, [49, 50, 51, 52, 53, 54, 55, 56, 57, 58, 59, 60, 61, 62, 63, 64, 65, 66], [0, 1], true⟩, ⟨[], false, [49, 50, 51, 52, 53, 54, 55, 56, 57, 58, 59, 60, 61, 62, 63, 64, 65, 66], [0, 1, 2], true⟩, ⟨[], false, [49, 50, 51, 52, 53, 54, 55, 56, 57, 58, 59, 60, 61, 62, 63, 64, 65, 66], [0, 1, 2, 3], true⟩, ⟨[3, 4], false, [49, 50, 51, 54, 55, 56, 57, 58, 59, 60, 61, 62, 63, 64, 65, 66], [0, 1, 2], true⟩, ⟨[], false, [49, 50, 51, 52, 53, 54, 56, 57, 58, 61, 62, 63, 64], [0, 1, 2, 3, 4, 5], false⟩, ⟨[], false, [49, 50, 51, 52, 53, 54, 55, 57, 61, 62, 63, 64], [0, 1, 2, 3, 4, 5, 6], false⟩, ⟨[], false, [49, 50, 51, 52, 53, 54, 55, 56, 61, 62, 63, 64], [0, 1, 2, 3, 4, 5, 6, 7], false⟩, ⟨[7, 8], false, [49, 50, 51, 52, 53, 54, 55, 61, 62, 63, 64], [0, 1, 2, 3, 4, 5, 6], false⟩, ⟨[6, 7, 8, 9], false, [49, 50, 51, 52, 53, 54, 61, 62, 63, 64], [0, 1, 2, 3, 4, 5], false⟩, ⟨[6, 7, 8, 9, 10], false, [49, 50, 51, 52, 53, 54, 61, 62, 63, 64], [0, 1, 2, 3, 4, 5], false⟩, ⟨[], false, [49, 50, 51, 52, 53, 54, 55, 56, 57, 58, 59, 60, 62], [0, 1, 2, 3, 4, 5, 6, 7, 8, 9, 10, 11], false⟩, ⟨[], false, [49, 50, 51, 52, 53, 54, 55, 56, 57, 58, 59, 60, 61], [0, 1, 2, 3, 4, 5, 6, 7, 8, 9, 10, 11, 12], false⟩, ⟨[12, 13], false, [49, 50, 51, 52, 53, 54, 55, 56, 57, 58, 59, 60], [0, 1, 2, 3, 4, 5, 6, 7, 8, 9, 10, 11], false⟩, ⟨[12, 13, 14], false, [49, 50, 51, 52, 53, 54, 55, 56, 57, 58, 59, 60], [0, 1, 2, 3, 4, 5, 6, 7, 8, 9, 10, 11], false⟩, ⟨[0, 1, 6, 7, 8, 9, 10, 11, 12, 13, 14, 15], false, [51, 52, 53, 54], [2, 3, 4, 5], false⟩, ⟨[0, 1, 6, 7, 8, 9, 10, 11, 12, 13, 14, 15, 16], true, [51, 52, 53, 54], [], false⟩, ⟨[0, 1, 2, 3, 4, 5, 6, 7, 8, 9, 10, 11, 12, 13, 14, 15, 16, 17], true, [], [], false⟩, ⟨[0, 1, 2, 3, 4, 5, 6, 7, 8, 9, 10, 11, 12, 13, 14, 15, 16, 17, 18], true, [], [], false⟩] (by decide) ?_
        simp (maxSteps := 2000000) -implicitDefEqProofs only [zz, zE, evop, ev, ofVal, tget, tput, ok, V.isUndef, intBin, guardOf, initT, Ch.on, calleeOf, withArgs, told, xport, xports, tids, tidss, hget, hput, Blk.ice, freeze, V.cells, D.cells, V.isAgg, V.one, V.clo, clos, V.toD, loadD, structAt, eqCells, D.scalarEq, sliceOf, partsD, partsV, bound, isPtr, Blk.width, elems, lenOf, splice, D.over, resOf, resV, resVs, ↓reduceIte, reduceCtorEq, ↓reduceDIte, Nat.reduceLT, Nat.reduceEqDiff, Nat.reduceAdd, Nat.reduceSub, Nat.reduceMul, Nat.reduceLeDiff, Nat.reduceBEq, Nat.reduceBNe, Int.reduceNeg, Int.reduceAdd, Int.reduceSub, Int.reduceToNat, nilTest, shiftH, Blk.ren, V.ren, renL, initV, frameH, putL, frρ, dI, finN_ret, finN_normal, cutK_normal, cutK_ret, cutK_exit, w12, List.getElem?_map, g1, g2, g3, Option.map_some, Int.natCast_nonneg, set_dI, g4, w13]
        exact ⟨by omega, by omega, by omega, by omega, (i + 1, r', sw ys (ba + i) (a + ot)), ⟨by simp only; omega, hP.trans (PS.sw (by omega) ⟨by omega, by omega⟩ ⟨by omega, by omega⟩)⟩, by simp only; omega, Weak.trimsM 2 (by simp) rfl (by simp [tget, V.lower, lowerL, lowerL_ds]) (by simp [Blk.lower, V.lower, lowerL])⟩
    · simp (maxSteps := 2000000) -implicitDefEqProofs only [zz, zE, evop, ev, ofVal, tget, tput, ok, V.isUndef, intBin, guardOf, initT, Ch.on, calleeOf, withArgs, told, xport, xports, tids, tidss, hget, hput, Blk.ice, freeze, V.cells, D.cells, V.isAgg, V.one, V.clo, clos, V.toD, loadD, structAt, eqCells, D.scalarEq, sliceOf, partsD, partsV, bound, isPtr, Blk.width, elems, lenOf, splice, D.over, resOf, resV, resVs, ↓reduceIte, reduceCtorEq, ↓reduceDIte, Nat.reduceLT, Nat.reduceEqDiff, Nat.reduceAdd, Nat.reduceSub, Nat.reduceMul, Nat.reduceLeDiff, Nat.reduceBEq, Nat.reduceBNe, Int.reduceNeg, Int.reduceAdd, Int.reduceSub, Int.reduceToNat, nilTest, shiftH, Blk.ren, V.ren, renL, initV, frameH, putL, frρ, dI, finN_ret, finN_normal, cutK_normal, cutK_ret, cutK_exit, w3, w3b, w4, w5, w7, h3]
      exact ⟨by omega, _, _, ⟨ys, rfl, rfl, hP⟩, Weak.trimsM 1 (by simp) rfl (by simp [tget, V.lower, lowerL, lowerL_ds]) (by simp [Blk.lower])⟩
  · simp (maxSteps := 2000000) -implicitDefEqProofs only [zz, zE, evop, ev, ofVal, tget, tput, ok, V.isUndef, intBin, guardOf, initT, Ch.on, calleeOf, withArgs, told, xport, xports, tids, tidss, hget, hput, Blk.ice, freeze, V.cells, D.cells, V.isAgg, V.one, V.clo, clos, V.toD, loadD, structAt, eqCells, D.scalarEq, sliceOf, partsD, partsV, bound, isPtr, Blk.width, elems, lenOf, splice, D.over, resOf, resV, resVs, ↓reduceIte, reduceCtorEq, ↓reduceDIte, Nat.reduceLT, Nat.reduceEqDiff, Nat.reduceAdd, Nat.reduceSub, Nat.reduceMul, Nat.reduceLeDiff, Nat.reduceBEq, Nat.reduceBNe, Int.reduceNeg, Int.reduceAdd, Int.reduceSub, Int.reduceToNat, nilTest, shiftH, Blk.ren, V.ren, renL, initV, frameH, putL, frρ, dI, finN_ret, finN_normal, cutK_normal, cutK_ret, cutK_exit, w1, h8]
    exact ⟨_, _, ⟨zs, rfl, rfl, PS.refl hab hb⟩, Weak.trimsM 1 (by simp) rfl (by simp [tget, V.lower, lowerL, lowerL_ds]) (by simp [Blk.lower])⟩
end Go.Proofs.Ythpapgbpmkgfeaa.AM

/- Merges of sorted lists; a stable sort's result is one list. -/
set_option linter.all false
namespace Go.Proofs.Ythpapgbpmkgfeaa.AM
open Go

section
variable {α : Type} {lt : α → α → Bool}

def mg (lt : α → α → Bool) (A B : List α) : List α := List.merge A B (fun x y => !lt y x)
theorem mg_nil (B : List α) : mg lt [] B = B := by simp [mg, List.merge]
theorem mg_nil' (A : List α) : mg lt A [] = A := by cases A <;> simp [mg, List.merge]
theorem mg_cons (a : α) (A : List α) (b : α) (B : List α) : mg lt (a :: A) (b :: B) = if lt b a = false then a :: mg lt A (b :: B) else b :: mg lt (a :: A) B := by
  simp only [mg]
  rw [List.merge]
  cases lt b a <;> simp
theorem mg_len : ∀ (A B : List α), (mg lt A B).length = A.length + B.length
  | [], B => by rw [mg_nil]; simp
  | a :: A, [] => by rw [mg_nil']; simp
  | a :: A, b :: B => by
    rw [mg_cons]
    split
    · simp [mg_len A (b :: B)]; omega
    · simp [mg_len (a :: A) B]; omega

theorem mg_split : ∀ (A1 B1 : List α) {A2 B2 : List α}, (∀ x ∈ A1, ∀ y ∈ B2, lt y x = false) → (∀ y ∈ B1, ∀ x ∈ A2, lt y x = true) → mg lt (A1 ++ A2) (B1 ++ B2) = mg lt A1 B1 ++ mg lt A2 B2
  | [], [], A2, B2, _, _ => by simp [mg_nil]
  | [], b :: B1, A2, B2, h1, h2 => by
    have ih := mg_split [] B1 (A2 := A2) (B2 := B2) (by simp) (fun y hy => h2 y (by simp [hy]))
    rw [mg_nil, List.nil_append] at *
    cases A2 with
    | nil => rw [mg_nil, mg_nil]
    | cons x A2 =>
      rw [List.cons_append, mg_cons, if_neg (by rw [h2 b (by simp) x (by simp)]; simp), ih]; rfl
  | a :: A1, [], A2, B2, h1, h2 => by
    have ih := mg_split A1 [] (A2 := A2) (B2 := B2) (fun x hx => h1 x (by simp [hx])) (by simp)
    rw [mg_nil', List.nil_append] at *
    cases B2 with
    | nil => rw [mg_nil', mg_nil']
    | cons y B2 =>
      rw [List.cons_append, mg_cons, if_pos (h1 a (by simp) y (by simp)), ih]; rfl
  | a :: A1, b :: B1, A2, B2, h1, h2 => by
    rw [List.cons_append, List.cons_append, mg_cons, mg_cons]
    split
    · have := mg_split A1 (b :: B1) (A2 := A2) (B2 := B2) (fun x hx => h1 x (by simp [hx])) h2
      rw [← List.cons_append, this]; rfl
    · have := mg_split (a :: A1) B1 (A2 := A2) (B2 := B2) h1 (fun y hy => h2 y (by simp [hy]))
      rw [← List.cons_append, this]; rfl

theorem mg_one {x : α} {B1 B2 : List α} (h1 : ∀ y ∈ B1, lt y x = true) (h2 : ∀ y ∈ B2, lt y x = false) : mg lt [x] (B1 ++ B2) = B1 ++ x :: B2 := by
  have := mg_split [] B1 (A2 := [x]) (B2 := B2) (lt := lt) (by simp) (fun y hy z hz => by simp at hz; subst hz; exact h1 y hy)
  rw [List.nil_append, mg_nil] at this
  rw [this]
  have := mg_split [x] [] (A2 := []) (B2 := B2) (lt := lt) (fun z hz y hy => by simp at hz; subst hz; exact h2 y hy) (by simp)
  rw [List.append_nil, List.nil_append, mg_nil', mg_nil] at this
  rw [this]; rfl

theorem mg_one' {y : α} {A1 A2 : List α} (h1 : ∀ x ∈ A1, lt y x = false) (h2 : ∀ x ∈ A2, lt y x = true) : mg lt (A1 ++ A2) [y] = A1 ++ y :: A2 := by
  have := mg_split A1 [] (A2 := A2) (B2 := [y]) (lt := lt) (fun x hx z hz => by simp at hz; subst hz; exact h1 x hx) (by simp)
  rw [List.nil_append, mg_nil'] at this
  rw [this]
  have := mg_split [] [y] (A2 := A2) (B2 := []) (lt := lt) (by simp) (fun z hz x hx => by simp at hz; subst hz; exact h2 x hx)
  rw [List.append_nil, List.nil_append, mg_nil', mg_nil] at this
  rw [this]; rfl

/-- No later one is less than an earlier one. -/
def Srt (lt : α → α → Bool) (l : List α) : Prop := ∀ (i j : Nat) (x y : α), i < j → l[i]? = some x → l[j]? = some y → lt y x = false

theorem Srt.take {l : List α} (h : Srt lt l) (n : Nat) : Srt lt (l.take n) := fun i j x y hij hx hy => by
  rw [List.getElem?_take] at hx hy
  split at hx
  · split at hy
    · exact h i j x y hij hx hy
    · cases hy
  · cases hx
theorem Srt.drop {l : List α} (h : Srt lt l) (n : Nat) : Srt lt (l.drop n) := fun i j x y hij hx hy => by
  rw [List.getElem?_drop] at hx hy
  exact h (n + i) (n + j) x y (by omega) hx hy

/-- What the search for the cut has found. A's first i, B's first j; i + j is fixed. -/
theorem cut_ok (hnt : ∀ x y z, lt x y = false → lt y z = false → lt x z = false) (hir : ∀ x, lt x x = false) {A B : List α} (hA : Srt lt A) (hB : Srt lt B) {i j : Nat}
    (hi : i ≤ A.length) (hj : j ≤ B.length) (h1 : 0 < i → j < B.length → ∀ x y, A[i - 1]? = some x → B[j]? = some y → lt y x = false)
    (h2 : i < A.length → 0 < j → ∀ x y, A[i]? = some x → B[j - 1]? = some y → lt y x = true) :
    (∀ x ∈ A.take i, ∀ y ∈ B.drop j, lt y x = false) ∧ (∀ y ∈ B.take j, ∀ x ∈ A.drop i, lt y x = true) := by
  have le' : ∀ {l : List α}, Srt lt l → ∀ {p q : Nat} {x y : α}, p ≤ q → l[p]? = some x → l[q]? = some y → lt y x = false := by
    intro l hl p q x y hpq hx hy
    rcases Nat.lt_or_ge p q with h | h
    · exact hl p q x y h hx hy
    · obtain rfl : p = q := by omega
      rw [hx] at hy; cases hy; exact hir x
  constructor
  · intro x hx y hy
    obtain ⟨p, hp⟩ := List.getElem?_of_mem hx
    obtain ⟨q, hq⟩ := List.getElem?_of_mem hy
    rw [List.getElem?_take] at hp
    rw [List.getElem?_drop] at hq
    split at hp
    · rename_i hpi
      have hjl : j + q < B.length := (List.getElem?_eq_some_iff.1 hq).1
      have hpl : p < A.length := (List.getElem?_eq_some_iff.1 hp).1
      have e1 : A[i - 1]? = some (A[i - 1]'(by omega)) := List.getElem?_eq_getElem (by omega)
      have e2 : B[j]? = some (B[j]'(by omega)) := List.getElem?_eq_getElem (by omega)
      have := h1 (by omega) (by omega) _ _ e1 e2
      exact hnt _ _ _ (hnt _ _ _ (le' hB (by omega) e2 hq) this) (le' hA (by omega) hp e1)
    · cases hp
  · intro y hy x hx
    obtain ⟨p, hp⟩ := List.getElem?_of_mem hx
    obtain ⟨q, hq⟩ := List.getElem?_of_mem hy
    rw [List.getElem?_drop] at hp
    rw [List.getElem?_take] at hq
    split at hq
    · have hil : i + p < A.length := (List.getElem?_eq_some_iff.1 hp).1
      have hql : q < B.length := (List.getElem?_eq_some_iff.1 hq).1
      have e1 : A[i]? = some (A[i]'(by omega)) := List.getElem?_eq_getElem (by omega)
      have e2 : B[j - 1]? = some (B[j - 1]'(by omega)) := List.getElem?_eq_getElem (by omega)
      have := h2 (by omega) (by omega) _ _ e1 e2
      cases h : lt y x with
      | true => rfl
      | false =>
        have h3 := hnt _ _ _ (hnt _ _ _ (le' hB (by omega) hq e2) h) (le' hA (by omega) e1 hp)
        rw [h3] at this; cases this
    · cases hq

end
end Go.Proofs.Ythpapgbpmkgfeaa.AM

/- The insertion sort is the merge of the two parts' sorts. -/
set_option linter.all false
namespace Go.Proofs.Ythpapgbpmkgfeaa.AM
open Go

section
variable {α : Type} {lt : α → α → Bool}

theorem mg_mem {y : α} : ∀ {A B : List α}, y ∈ mg lt A B → y ∈ A ∨ y ∈ B
  | [], B, h => by rw [mg_nil] at h; exact .inr h
  | a :: A, [], h => by rw [mg_nil'] at h; exact .inl h
  | a :: A, b :: B, h => by
    rw [mg_cons] at h
    split at h
    · rcases List.mem_cons.1 h with rfl | h
      · exact .inl (by simp)
      · rcases mg_mem h with h | h
        · exact .inl (by simp [h])
        · exact .inr h
    · rcases List.mem_cons.1 h with rfl | h
      · exact .inr (by simp)
      · rcases mg_mem h with h | h
        · exact .inl h
        · exact .inr (by simp [h])

def PW (lt : α → α → Bool) (l : List α) : Prop := l.Pairwise (fun x y => lt y x = false)

theorem PW.srt {l : List α} (h : PW lt l) : Srt lt l := fun i j x y hij hx hy => by
  obtain ⟨hi, rfl⟩ := List.getElem?_eq_some_iff.1 hx
  obtain ⟨hj, rfl⟩ := List.getElem?_eq_some_iff.1 hy
  exact List.pairwise_iff_getElem.1 h i j hi hj hij

theorem cut_at (hnt : ∀ x y z, lt x y = false → lt y z = false → lt x z = false) {l : List α} (h : PW lt l) (x : α) : ∃ l1 l2, l = l1 ++ l2 ∧ (∀ y ∈ l1, lt x y = false) ∧ (∀ y ∈ l2, lt x y = true) := by
  induction l with
  | nil => exact ⟨[], [], rfl, by simp, by simp⟩
  | cons a r ih =>
    obtain ⟨h1, h2⟩ := List.pairwise_cons.1 h
    cases hx : lt x a with
    | true =>
      refine ⟨[], a :: r, rfl, by simp, fun y hy => ?_⟩
      rcases List.mem_cons.1 hy with rfl | hy
      · exact hx
      · cases hd : lt x y with
        | true => rfl
        | false => have := hnt x y a hd (h1 y hy); rw [hx] at this; cases this
    | false =>
      obtain ⟨l1, l2, rfl, g1, g2⟩ := ih h2
      refine ⟨a :: l1, l2, rfl, fun y hy => ?_, g2⟩
      rcases List.mem_cons.1 hy with rfl | hy
      · exact hx
      · exact g1 y hy

theorem insR_cut {l1 l2 : List α} {x : α} (h1 : ∀ y ∈ l1, lt x y = false) (h2 : ∀ y ∈ l2, lt x y = true) : insR lt x (l1 ++ l2) = l1 ++ x :: l2 := by
  have : insK lt x (l1 ++ l2) = l1.length := by
    refine insK_eq (by simp) (fun i hi y hy => ?_) ?_
    · rw [List.getElem?_append_right hi] at hy
      exact h2 y (List.mem_of_getElem? hy)
    · rcases Nat.eq_zero_or_pos l1.length with h | h
      · exact .inl h
      · refine .inr ⟨l1[l1.length - 1]'(by omega), ?_, h1 _ (List.getElem_mem _)⟩
        rw [List.getElem?_append_left (by omega), List.getElem?_eq_getElem (by omega)]
  unfold insR
  rw [this, List.take_left' rfl, List.drop_left' rfl]

theorem insR_pw (hnt : ∀ x y z, lt x y = false → lt y z = false → lt x z = false) (has : ∀ x y, lt x y = true → lt y x = false) {l : List α} (h : PW lt l) (x : α) : PW lt (insR lt x l) := by
  obtain ⟨l1, l2, rfl, g1, g2⟩ := cut_at hnt h x
  rw [insR_cut g1 g2]
  obtain ⟨p1, p2, p3⟩ := List.pairwise_append.1 h
  refine List.pairwise_append.2 ⟨p1, List.pairwise_cons.2 ⟨fun y hy => has _ _ (g2 y hy), p2⟩, fun a ha b hb => ?_⟩
  rcases List.mem_cons.1 hb with rfl | hb
  · exact g1 a ha
  · exact p3 a ha b hb

theorem isort_pw (hnt : ∀ x y z, lt x y = false → lt y z = false → lt x z = false) (has : ∀ x y, lt x y = true → lt y x = false) (l : List α) : PW lt (isort lt l) := by
  have : ∀ (l A : List α), PW lt A → PW lt (l.foldl (fun A x => insR lt x A) A) := by
    intro l
    induction l with
    | nil => intro A h; exact h
    | cons x l ih => intro A h; exact ih _ (insR_pw hnt has h x)
  exact this l [] List.Pairwise.nil

theorem mg_pw (hnt : ∀ x y z, lt x y = false → lt y z = false → lt x z = false) (has : ∀ x y, lt x y = true → lt y x = false) : ∀ {A B : List α}, PW lt A → PW lt B → PW lt (mg lt A B)
  | [], B, _, h => by rw [mg_nil]; exact h
  | a :: A, [], h, _ => by rw [mg_nil']; exact h
  | a :: A, b :: B, h, h' => by
    obtain ⟨h1, h2⟩ := List.pairwise_cons.1 h
    obtain ⟨h1', h2'⟩ := List.pairwise_cons.1 h'
    rw [mg_cons]
    split
    · rename_i hab
      refine List.pairwise_cons.2 ⟨fun y hy => ?_, mg_pw hnt has h2 h'⟩
      rcases mg_mem hy with hy | hy
      · exact h1 y hy
      · rcases List.mem_cons.1 hy with rfl | hy
        · exact hab
        · exact hnt _ _ _ (h1' y hy) hab
    · rename_i hab
      have hab' : lt b a = true := by simpa using hab
      refine List.pairwise_cons.2 ⟨fun y hy => ?_, mg_pw hnt has h h2'⟩
      rcases mg_mem hy with hy | hy
      · rcases List.mem_cons.1 hy with rfl | hy
        · exact has _ _ hab'
        · exact hnt _ _ _ (h1 y hy) (has _ _ hab')
      · exact h1' y hy

theorem mg_insR (hnt : ∀ x y z, lt x y = false → lt y z = false → lt x z = false) (has : ∀ x y, lt x y = true → lt y x = false) {L M : List α} (hL : PW lt L) (hM : PW lt M) (x : α) : mg lt L (insR lt x M) = insR lt x (mg lt L M) := by
  obtain ⟨L1, L2, rfl, a1, a2⟩ := cut_at hnt hL x
  obtain ⟨M1, M2, rfl, b1, b2⟩ := cut_at hnt hM x
  have c1 : ∀ l ∈ L1, ∀ m ∈ M2, lt m l = false := fun l hl m hm => hnt m x l (has _ _ (b2 m hm)) (a1 l hl)
  have c2 : ∀ m ∈ M1, ∀ l ∈ L2, lt m l = true := fun m hm l hl => by
    cases hd : lt m l with
    | true => rfl
    | false => have := hnt x m l (b1 m hm) hd; rw [a2 l hl] at this; cases this
  rw [insR_cut b1 b2, mg_split L1 M1 c1 c2, insR_cut (fun y hy => by rcases mg_mem hy with h | h; exact a1 y h; exact b1 y h) (fun y hy => by rcases mg_mem hy with h | h; exact a2 y h; exact b2 y h)]
  have e1 : M1 ++ x :: M2 = (M1 ++ [x]) ++ M2 := by simp
  rw [e1, mg_split L1 (M1 ++ [x]) c1 (fun y hy l hl => by
    rcases List.mem_append.1 hy with hy | hy
    · exact c2 y hy l hl
    · simp at hy; subst hy; exact a2 l hl)]
  have e2 := mg_split L1 M1 (A2 := []) (B2 := [x]) (lt := lt) (fun l hl y hy => by simp at hy; subst hy; exact a1 l hl) (by simp)
  rw [List.append_nil, mg_nil] at e2
  rw [e2]; simp

theorem isort_mg (hnt : ∀ x y z, lt x y = false → lt y z = false → lt x z = false) (has : ∀ x y, lt x y = true → lt y x = false) (A B : List α) : mg lt (isort lt A) (isort lt B) = isort lt (A ++ B) := by
  have : ∀ (n : Nat) (B : List α), B.length = n → mg lt (isort lt A) (isort lt B) = isort lt (A ++ B) := by
    intro n
    induction n with
    | zero => intro B hB; rw [List.length_eq_zero_iff.1 hB]; simp [isort, mg_nil']
    | succ n ih =>
      intro B hB
      have hne : B ≠ [] := fun e => by rw [e] at hB; simp at hB
      have e := List.dropLast_concat_getLast hne
      rw [← e, isort_snoc, mg_insR hnt has (isort_pw hnt has A) (isort_pw hnt has _), ih _ (by simp; omega), ← isort_snoc, List.append_assoc]
  exact this B.length B rfl

end
end Go.Proofs.Ythpapgbpmkgfeaa.AM

/- Sorting parts: the plain laws of the whole. -/
set_option linter.all false
namespace Go.Proofs.Ythpapgbpmkgfeaa.AM
open Go

/-- An order in which two that are not one are apart. -/
structure Ord (c : Int → Int → Int) : Prop where
  swo : Sort.SWO (ltC c)
  tot : ∀ x y, x ≠ y → c x y < 0 ∨ c y x < 0

namespace Ord
variable {c : Int → Int → Int} (h : Ord c)
include h
theorem irr (x : Int) : ¬ c x x < 0 := by have := h.swo.irrefl x; simpa [ltC] using this
theorem tr {x y z : Int} (h1 : c x y < 0) (h2 : c y z < 0) : c x z < 0 := by
  have := h.swo.trans x y z (decide_eq_true h1) (decide_eq_true h2); simpa [ltC] using this
theorem asy {x y : Int} (h1 : c x y < 0) : ¬ c y x < 0 := fun h2 => h.irr x (h.tr h1 h2)
theorem hnt : ∀ x y z, ltC c x y = false → ltC c y z = false → ltC c x z = false := h.swo.ntrans
theorem has : ∀ x y, ltC c x y = true → ltC c y x = false := fun x y h1 => decide_eq_false (h.asy (of_decide_eq_true h1))
end Ord

/-- All of the part is behind what stands ahead of it. -/
def SB (c : Int → Int → Int) (a b : Nat) (zs : List Int) : Prop := a = 0 ∨ ∀ i, a ≤ i → i < b → c (zs.getD (a - 1) 0) (zs.getD i 0) < 0

theorem PS.outD {a b : Nat} {x y : List Int} (h : PS a b x y) {i : Nat} (hi : i < a ∨ b ≤ i) : y.getD i 0 = x.getD i 0 := by
  rw [List.getD_eq_getElem?_getD, List.getD_eq_getElem?_getD, h.out hi]
theorem PS.segD {a b : Nat} {x y : List Int} (h : PS a b x y) (hb : b ≤ x.length) {P : Int → Prop} (hP : ∀ i, a ≤ i → i < b → P (x.getD i 0)) : ∀ i, a ≤ i → i < b → P (y.getD i 0) := fun i h1 h2 => by
  have hl := h.len
  refine h.seg (P := P) (fun i h1 h2 v hv => ?_) i h1 h2 _ (by rw [List.getD_eq_getElem?_getD, List.getElem?_eq_getElem (show i < y.length by omega)]; rfl)
  have := hP i h1 h2
  rw [List.getD_eq_getElem?_getD, hv] at this
  exact this

section
variable {c : Int → Int → Int} (hO : Ord c)
include hO

theorem SB.below {a b : Nat} {zs : List Int} (h : SB c a b zs) : Sort.Below (ltC c) a b zs.toArray := by
  rcases h with h | h
  · exact .inl h
  · refine .inr fun i h1 h2 => ?_
    rw [tA_get, tA_get]
    exact decide_eq_false (hO.asy (h i h1 h2))

theorem so_join {a m b : Nat} {w : List Int} (h1 : ∀ x, a ≤ x → x < m → c (w.getD x 0) (w.getD m 0) < 0) (h2 : ∀ x, m < x → x < b → ¬ c (w.getD x 0) (w.getD m 0) < 0) (s1 : SoIn c a m w) (s2 : SoIn c (m + 1) b w) : SoIn c a b w := by
  intro i j hi hij hj
  rcases Nat.lt_trichotomy j m with h | rfl | h
  · exact s1 i j hi hij h
  · exact hO.asy (h1 i hi hij)
  · rcases Nat.lt_trichotomy i m with h' | rfl | h'
    · exact fun hc => h2 j h hj (hO.tr hc (h1 i hi h'))
    · exact h2 j h hj
    · exact s2 i j (by omega) hij hj

/-- What the two halves come to, the left one first. -/
theorem so_left {a m b : Nat} {y2 y3 y4 : List Int} (hb : b ≤ y2.length) (ham : a ≤ m) (hmb : m < b) (h1 : ∀ x, a ≤ x → x < m → c (y2.getD x 0) (y2.getD m 0) < 0) (h2 : ∀ x, m < x → x < b → ¬ c (y2.getD x 0) (y2.getD m 0) < 0)
    (p3 : PS a m y2 y3) (s3 : SoIn c a m y3) (p4 : PS (m + 1) b y3 y4) (s4 : SoIn c (m + 1) b y4) : SoIn c a b y4 := by
  have l3 := p3.len
  have em : y4.getD m 0 = y2.getD m 0 := by rw [p4.outD (.inl (by omega)), p3.outD (.inr (by omega))]
  refine so_join hO (m := m) (fun x hx hxm => ?_) (fun x hx hxm => ?_) (fun i j hi hij hj => ?_) s4
  · rw [em, p4.outD (.inl (by omega))]
    exact p3.segD (by omega) (P := fun v => c v (y2.getD m 0) < 0) h1 x hx hxm
  · rw [em]
    exact p4.segD (by omega) (P := fun v => ¬ c v (y2.getD m 0) < 0) (fun i hi hib => by rw [p3.outD (.inr (by omega))]; exact h2 i (by omega) hib) x (by omega) hxm
  · rw [p4.outD (i := j) (.inl (by omega)), p4.outD (i := i) (.inl (by omega))]
    exact s3 i j hi hij hj
theorem so_right {a m b : Nat} {y2 y3 y4 : List Int} (hb : b ≤ y2.length) (ham : a ≤ m) (hmb : m < b) (h1 : ∀ x, a ≤ x → x < m → c (y2.getD x 0) (y2.getD m 0) < 0) (h2 : ∀ x, m < x → x < b → ¬ c (y2.getD x 0) (y2.getD m 0) < 0)
    (p3 : PS (m + 1) b y2 y3) (s3 : SoIn c (m + 1) b y3) (p4 : PS a m y3 y4) (s4 : SoIn c a m y4) : SoIn c a b y4 := by
  have l3 := p3.len
  have em : y4.getD m 0 = y2.getD m 0 := by rw [p4.outD (.inr (by omega)), p3.outD (.inl (by omega))]
  refine so_join hO (m := m) (fun x hx hxm => ?_) (fun x hx hxm => ?_) s4 (fun i j hi hij hj => ?_)
  · rw [em]
    exact p4.segD (by omega) (P := fun v => c v (y2.getD m 0) < 0) (fun i hi him => by rw [p3.outD (.inl (by omega))]; exact h1 i hi him) x hx hxm
  · rw [em, p4.outD (.inr (by omega))]
    exact p3.segD (by omega) (P := fun v => ¬ c v (y2.getD m 0) < 0) (fun i hi hib => h2 i (by omega) hib) x (by omega) hxm
  · rw [p4.outD (i := j) (.inr (by omega)), p4.outD (i := i) (.inr (by omega))]
    exact s3 i j hi hij hj

theorem nodup_ne {l : List Int} (hn : l.Nodup) {i j : Nat} (hij : i ≠ j) (hi : i < l.length) (hj : j < l.length) : l.getD i 0 ≠ l.getD j 0 := by
  rw [List.getD_eq_getElem?_getD, List.getD_eq_getElem?_getD, List.getElem?_eq_getElem hi, List.getElem?_eq_getElem hj]
  exact fun e => hij ((List.getElem_inj hn).1 (by simpa using e))

/-- Behind a partition: what is behind the middle is behind it, for all that may still move there. -/
theorem SB.right {a m b : Nat} {y2 y3 : List Int} (hn : y2.Nodup) (hb : b ≤ y2.length) (ham : a ≤ m) (hmb : m < b) (h2 : ∀ x, m < x → x < b → ¬ c (y2.getD x 0) (y2.getD m 0) < 0) (p3 : PS a m y2 y3) : SB c (m + 1) b y3 := by
  refine .inr fun i h1 h3 => ?_
  rw [Nat.add_sub_cancel, p3.outD (.inr (by omega)), p3.outD (.inr (by omega))]
  rcases hO.tot _ _ (nodup_ne hO hn (i := m) (j := i) (by omega) (by omega) (by omega)) with h | h
  · exact h
  · exact absurd h (h2 i (by omega) h3)
theorem SB.right0 {a m b : Nat} {y2 : List Int} (hn : y2.Nodup) (hb : b ≤ y2.length) (ham : a ≤ m) (hmb : m < b) (h2 : ∀ x, m < x → x < b → ¬ c (y2.getD x 0) (y2.getD m 0) < 0) : SB c (m + 1) b y2 :=
  SB.right hO hn hb ham hmb h2 (PS.refl ham (by omega))
/-- The part in another order. -/
theorem SB.ps {a b a' b' : Nat} {ys ys' : List Int} (h : SB c a b ys) (hb : b ≤ ys.length) (hp : PS a' b' ys ys') (ha : a ≤ a') (hb' : b' ≤ b) (hab : a' ≤ b') : SB c a b ys' := by
  have hp2 : PS a b ys ys' := hp.mono ha hb' hb
  rcases h with h | h
  · exact .inl h
  · rcases Nat.eq_zero_or_pos a with h0 | h0
    · exact .inl h0
    refine .inr fun i h1 h2 => ?_
    rw [hp2.outD (i := a - 1) (.inl (by omega))]
    exact hp2.segD hb (P := fun v => c (ys.getD (a - 1) 0) v < 0) h i h1 h2
theorem SB.sub {a b b' : Nat} {ys : List Int} (h : SB c a b ys) (hb : b' ≤ b) : SB c a b' ys := by
  rcases h with h | h
  · exact .inl h
  · exact .inr fun i h1 h2 => h i h1 (by omega)

theorem insR_perm (lt : Int → Int → Bool) (x : Int) (A : List Int) : (insR lt x A).Perm (x :: A) := by
  unfold insR
  refine (List.perm_middle).trans (.cons _ ?_)
  rw [List.take_append_drop]
theorem isort_perm (lt : Int → Int → Bool) (l : List Int) : (isort lt l).Perm l := by
  have : ∀ (l A : List Int), (l.foldl (fun A x => insR lt x A) A).Perm (A ++ l) := by
    intro l
    induction l with
    | nil => intro A; simp
    | cons x l ih =>
      intro A
      refine (ih _).trans ?_
      refine ((insR_perm hO lt x A).append_right l).trans ?_
      exact (List.perm_middle (a := x) (l₁ := A) (l₂ := l)).symm
  have h := this l []
  rwa [List.nil_append] at h

theorem sortPart_ps {zs : List Int} {a b : Nat} (hab : a ≤ b) (hb : b ≤ zs.length) : PS a b zs (sortPartI (fun x y => decide (c x y < 0)) zs a b) ∧ SoIn c a b (sortPartI (fun x y => decide (c x y < 0)) zs a b) := by
  have hp := isort_perm hO (fun x y => decide (c x y < 0)) ((zs.drop a).take (b - a))
  have hl := hp.length_eq
  simp only [List.length_take, List.length_drop] at hl
  refine ⟨⟨zs.take a, (zs.drop a).take (b - a), _, zs.drop b, ?_, rfl, by simp; omega, by simp; omega, hp⟩, fun i j h1 h2 h3 => ?_⟩
  · rw [List.append_assoc]
    have : zs.drop b = (zs.drop a).drop (b - a) := by rw [List.drop_drop]; congr 1; omega
    rw [this, List.take_append_drop, List.take_append_drop]
  · have hpw := isort_pw (lt := ltC c) hO.hnt hO.has ((zs.drop a).take (b - a))
    have e : ∀ k, a ≤ k → k < b → (sortPartI (fun x y => decide (c x y < 0)) zs a b).getD k 0 = (isort (ltC c) ((zs.drop a).take (b - a))).getD (k - a) 0 := fun k hk hkb => by
      show (zs.take a ++ isort (ltC c) _ ++ zs.drop b).getD k 0 = _
      have hl' : (isort (ltC c) ((zs.drop a).take (b - a))).length = min (b - a) (zs.length - a) := hl
      rw [List.getD_eq_getElem?_getD, List.getD_eq_getElem?_getD, List.append_assoc, List.getElem?_append_right (by simp; omega), List.getElem?_append_left (by simp only [List.length_take]; omega)]
      congr 3; simp; omega
    have hl' : (isort (ltC c) ((zs.drop a).take (b - a))).length = min (b - a) (zs.length - a) := hl
    rw [e i h1 (by omega), e j (by omega) h3]
    have hi : i - a < (isort (ltC c) ((zs.drop a).take (b - a))).length := by omega
    have hj : j - a < (isort (ltC c) ((zs.drop a).take (b - a))).length := by omega
    have := List.pairwise_iff_getElem.1 hpw (i - a) (j - a) hi hj (by omega)
    rw [List.getD_eq_getElem?_getD, List.getD_eq_getElem?_getD, List.getElem?_eq_getElem hi, List.getElem?_eq_getElem hj]
    simpa [ltC] using this

/-- There is one list in order. -/
theorem so_unique {zs zs' : List Int} (hp : zs'.Perm zs) (hs : SoIn c 0 zs'.length zs') : zs' = isort (fun x y => decide (c x y < 0)) zs := by
  have h1 : zs'.Pairwise (fun x y => ltC c y x = false) := List.pairwise_iff_getElem.2 fun i j hi hj hij => by
    have := hs i j (by omega) hij hj
    rw [List.getD_eq_getElem?_getD, List.getD_eq_getElem?_getD, List.getElem?_eq_getElem hi, List.getElem?_eq_getElem hj] at this
    simpa [ltC] using this
  have h2 := isort_pw (lt := ltC c) hO.hnt hO.has zs
  refine List.Perm.eq_of_pairwise (le := fun x y => ltC c y x = false) (fun x y _ _ hx hy => ?_) h1 h2 (hp.trans (isort_perm hO _ zs).symm)
  refine Classical.byContradiction fun hne => ?_
  rcases hO.tot x y hne with h | h
  · have : ltC c x y = true := decide_eq_true h
    rw [this] at hy; cases hy
  · have : ltC c y x = true := decide_eq_true h
    rw [this] at hx; cases hx
end
end Go.Proofs.Ythpapgbpmkgfeaa.AM
