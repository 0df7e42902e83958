/- Sorting by insertion. -/
import Derived.Test.YthpapgbpmkgfeaaFg

set_option linter.all false
set_option maxRecDepth 100000
set_option maxHeartbeats 4000000
namespace Go.Proofs.Ythpapgbpmkgfeaa.AM
open Go Go.RowKit

section
variable {α : Type}

/-- Where x belongs: ahead of the last ones that it is less than. -/
def insK (lt : α → α → Bool) (x : α) (A : List α) : Nat := A.length - (A.reverse.takeWhile (lt x)).length
def insR (lt : α → α → Bool) (x : α) (A : List α) : List α := A.take (insK lt x A) ++ x :: A.drop (insK lt x A)
def isort (lt : α → α → Bool) (l : List α) : List α := l.foldl (fun A x => insR lt x A) []

theorem takeWhile_len {p : α → Bool} : ∀ (l : List α) (k : Nat), k ≤ l.length → (∀ i, i < k → ∀ y, l[i]? = some y → p y = true) → (∀ y, l[k]? = some y → p y = false) → (l.takeWhile p).length = k
  | [], k, h, _, _ => by simp at h; simp [h]
  | a :: l, 0, h, _, h2 => by
    have := h2 a rfl
    simp [List.takeWhile_cons, this]
  | a :: l, k + 1, h, h1, h2 => by
    have ha := h1 0 (by omega) a rfl
    rw [List.takeWhile_cons, if_pos ha, List.length_cons, takeWhile_len l k (by simpa using h) (fun i hi y hy => h1 (i + 1) (by omega) y (by simpa using hy)) (fun y hy => h2 y (by simpa using hy))]

theorem insK_eq {lt : α → α → Bool} {x : α} {A : List α} {k : Nat} (hk : k ≤ A.length) (h1 : ∀ i, k ≤ i → ∀ y, A[i]? = some y → lt x y = true) (h2 : k = 0 ∨ ∃ y, A[k - 1]? = some y ∧ lt x y = false) : insK lt x A = k := by
  unfold insK
  rw [takeWhile_len A.reverse (A.length - k) (by simp) (fun i hi y hy => ?_) (fun y hy => ?_)]
  · omega
  · rw [List.getElem?_reverse (by omega)] at hy
    exact h1 _ (by omega) y hy
  · have hlt : A.length - k < A.reverse.length := (List.getElem?_eq_some_iff.1 hy).1
    simp at hlt
    rw [List.getElem?_reverse (by omega)] at hy
    rcases h2 with h2 | ⟨z, hz, hz2⟩
    · omega
    · have e : A.length - 1 - (A.length - k) = k - 1 := by omega
      rw [e, hz] at hy; cases hy; exact hz2

/-- The list while x goes to its place. -/
def insAt (P A R : List α) (x : α) (k : Nat) : List α := P ++ (A.take k ++ x :: A.drop k) ++ R

theorem insAt_length {P A R : List α} {x : α} {k : Nat} (hk : k ≤ A.length) : (insAt P A R x k).length = P.length + A.length + 1 + R.length := by
  simp [insAt]; omega

theorem insAt_get {P A R : List α} {x : α} {k : Nat} (hk : k ≤ A.length) (i : Nat) : (insAt P A R x k)[i]? = if i < P.length then P[i]? else if i < P.length + k then A[i - P.length]? else if i = P.length + k then some x else if i ≤ P.length + A.length then A[i - P.length - 1]? else R[i - P.length - A.length - 1]? := by
  unfold insAt
  rw [List.append_assoc, List.getElem?_append]
  by_cases h1 : i < P.length
  · rw [if_pos h1, if_pos h1]
  · rw [if_neg h1, if_neg h1, List.getElem?_append]
    have hl : (A.take k ++ x :: A.drop k).length = A.length + 1 := by simp; omega
    rw [hl, List.getElem?_append]
    have hl2 : (A.take k).length = k := by simp; omega
    rw [hl2]
    by_cases h2 : i < P.length + k
    · rw [if_pos (by omega), if_pos (by omega), if_pos h2, List.getElem?_take, if_pos (by omega)]
    · rw [if_neg h2]
      by_cases h3 : i = P.length + k
      · rw [if_pos (by omega), if_neg (by omega), if_pos h3]
        have : i - P.length - k = 0 := by omega
        rw [this]; rfl
      · rw [if_neg h3]
        by_cases h4 : i ≤ P.length + A.length
        · rw [if_pos (by omega), if_neg (by omega), if_pos h4]
          obtain ⟨d, hd⟩ : ∃ d, i - P.length - k = d + 1 := ⟨i - P.length - k - 1, by omega⟩
          rw [hd, List.getElem?_cons_succ, List.getElem?_drop]
          congr 1; omega
        · rw [if_neg (by omega), if_neg h4]
          congr 1

theorem insAt_swap {P A R : List α} {x y : α} {k : Nat} (hk : k + 1 ≤ A.length) (hy : A[k]? = some y) : ((insAt P A R x (k + 1)).set (P.length + k + 1) y).set (P.length + k) x = insAt P A R x k := by
  apply List.ext_getElem?
  intro i
  have hlen := insAt_length (P := P) (R := R) (x := x) hk
  by_cases h1 : P.length + k = i
  · subst h1
    rw [List.getElem?_set_self (by simp; omega), insAt_get (by omega), if_neg (by omega), if_neg (by omega), if_pos rfl]
  · rw [List.getElem?_set_ne h1]
    by_cases h2 : P.length + k + 1 = i
    · subst h2
      rw [List.getElem?_set_self (by omega), insAt_get (by omega), if_neg (by omega), if_neg (by omega), if_neg (by omega), if_pos (by omega)]
      have : P.length + k + 1 - P.length - 1 = k := by omega
      rw [this, hy]
    · rw [List.getElem?_set_ne h2, insAt_get hk, insAt_get (by omega)]
      by_cases h3 : i < P.length
      · rw [if_pos h3, if_pos h3]
      · rw [if_neg h3, if_neg h3]
        by_cases h4 : i < P.length + k
        · rw [if_pos (by omega), if_pos h4]
        · have f1 : ¬ i < P.length + (k + 1) := by omega
          have f2 : ¬ i = P.length + (k + 1) := by omega
          have f3 : ¬ i = P.length + k := by omega
          simp only [f1, f2, f3, h4, if_false]

end

theorem isort_snoc {α : Type} (lt : α → α → Bool) (l : List α) (x : α) : isort lt (l ++ [x]) = insR lt x (isort lt l) := by simp [isort]
theorem insR_length {α : Type} (lt : α → α → Bool) (x : α) (A : List α) : (insR lt x A).length = A.length + 1 := by
  simp [insR]; unfold insK; omega
theorem isort_length {α : Type} (lt : α → α → Bool) : ∀ (l : List α), (isort lt l).length = l.length := by
  intro l
  have : ∀ (l A : List α), (l.foldl (fun A x => insR lt x A) A).length = A.length + l.length := by
    intro l
    induction l with
    | nil => intro A; simp
    | cons x l ih => intro A; simp only [List.foldl_cons]; rw [ih, insR_length]; simp; omega
  simpa [isort] using this l []

theorem insR_mem {α : Type} {lt : α → α → Bool} {x y : α} {A : List α} (h : y ∈ insR lt x A) : y = x ∨ y ∈ A := by
  unfold insR at h
  rw [List.mem_append, List.mem_cons] at h
  rcases h with h | h | h
  · exact .inr (List.mem_of_mem_take h)
  · exact .inl h
  · exact .inr (List.mem_of_mem_drop h)

theorem isort_mem {α : Type} {lt : α → α → Bool} {y : α} : ∀ {l : List α}, y ∈ isort lt l → y ∈ l := by
  have : ∀ (l A : List α), y ∈ l.foldl (fun A x => insR lt x A) A → y ∈ A ∨ y ∈ l := by
    intro l
    induction l with
    | nil => intro A h; exact .inl h
    | cons x l ih =>
      intro A h
      rcases ih _ h with h | h
      · rcases insR_mem h with h | h
        · exact .inr (by simp [h])
        · exact .inl h
      · exact .inr (List.mem_cons_of_mem _ h)
  intro l h
  rcases this l [] h with h | h
  · simp at h
  · exact h

/-- A slice's part, sorted. -/
def sortPart (lt : Int × Int → Int × Int → Bool) (ws : List (Int × Int)) (a b : Nat) : List (Int × Int) := ws.take a ++ isort lt ((ws.drop a).take (b - a)) ++ ws.drop b

theorem r_insertion_W (ws : List (Int × Int)) (a b : Nat) (hab : a ≤ b) (hb : b ≤ ws.length) (hl : ws.length ≤ 1000000) (f : Nat) (c : Int × Int → Int × Int → Int)
    (hc : ∀ x y, CSpec Try.prog f [dW x, dW y] (.int .i64 (c x y))) : RSpec Try.prog 81 [.own 0 0 ws.length, .d (.int .i64 a), .d (.int .i64 b), .func (f, 0) []] [.dat false 2 (ws.map dW)] (.tuple [])
      [.dat false 2 ((sortPart (fun x y => decide (c x y < 0)) ws a b).map dW)] := by
  refine RSpec.of_awp envOf_ok hmix Try.func81 rfl (fun args w => Try.call81 args w) (by simp [Try.f81]) ?_
  simp only [Try.f81]
  simp (maxSteps := 2000000) -implicitDefEqProofs only [z00, z01, z02, z03, z04, z05, z06, z07, z08, z09, z0a, z0b, z0c, z0d, z0e, z0f, z0g, z0h, z0i, z0j, z0k, z0l, z0m, z0n, z0o, z0p, z0q, z0r, z0s, z0t, z0u, z0v, z0w, z0x, z0y, z0z, z10, z11, z12, z13, z14, z15, z16, z17, z18, z19, z1a, z1b, z1c, z1d, z1e, z1f, z1g, z1h, z1i, z1j, z1k, z1l, z1m, z1n, z1o, z1p, z1q, z1r, z1s, z1t, z1u, z1v, z1w, z1x, z1y, z1z, z20, z21, z22, z23, z24, z25, z26, z27, z28, z29, z2a, z2b, z2c, z2d, z2e, z2f, z2g, z2h, z2i, z2j, z2k, z2l, z2m, z2n, z2o, z2p, z2q, z2r, z2s, z2t, z2u, z2v, z2w, z2x, z2y, z2z, z30, z31, z32, z33, z34, z35, z36, z37, z38, z39, z3a, z3b, z3c, z3d, z3e, z3f, z3g, z3h, z3i, z3j, z3k, z3l, z3m, z3n, z3o, z3p, z3q, z3r, z3s, z3t, z3u, z3v, z3w, evop, ev, ofVal, tget, tput, ok, V.isUndef, intBin, guardOf, initT, Ch.on, calleeOf, withArgs, told, xport, xports, tids, tidss, hget, hput, Blk.ice, freeze, V.cells, D.cells, V.isAgg, V.one, V.clo, clos, V.toD, loadD, structAt, eqCells, D.scalarEq, sliceOf, partsD, partsV, bound, isPtr, Blk.width, elems, lenOf, splice, D.over, resOf, resV, resVs, z3x, z3y, z3z, z40, z41, ↓reduceIte, reduceCtorEq, ↓reduceDIte, Nat.reduceLT, Nat.reduceEqDiff, Nat.reduceAdd, Nat.reduceSub, Nat.reduceMul, Nat.reduceLeDiff, Nat.reduceBEq, Nat.reduceBNe, z42, z43, z44, z45, z46, z47, z48, z49, z4a, z4b, z4c, z4d, z4e, z4f, z4g, z4h, z4i, z4j, z4k, z4l, z4m, z4n, z4o, z4p, z4q, z4r, z4s, z4t, z4u, z4v, z4w, z4x, z4y, z4z, z50, z51, z52, z53, Int.reduceNeg, Int.reduceAdd, Int.reduceSub, Int.reduceToNat, z54, z55, z56, z57, z58, z59, z5a, z5b, nilTest, z5c, z5d, z5e, z5f, shiftH, Blk.ren, V.ren, renL, initV, frameH, putL, frρ, z5g, z5h, z5i, z5j, E2, E3, E4, E5, E6, E7, E8, E12, E15, E16, E17, E18, E19, E21, E22, E23, E24, E25, E26, E27, E30, E32, E50, E53, E56, E57, E71, E94, E96, E106, E111, E119, E120, E124, E126, E131, E132, E133, E135, E136, E138, E139, E140, E141, E142, dI, dW]
  have hw0 : IntKind.i64.wrap ((a : Int) + 1) = ((a + 1 : Nat) : Int) := by rw [wrap_in (by omega)]; omega
  let lt : Int × Int → Int × Int → Bool := fun x y => decide (c x y < 0)
  rcases Nat.eq_or_lt_of_le hab with hab' | hab'
  · subst hab'
    have e0 : sortPart (fun x y => decide (c x y < 0)) ws a a = ws := by simp [sortPart, isort]
    refine wloop_count 0 (fun i => [(8, .d (.int .i64 ((a + 1 : Nat) : Int))), (0, .own 0 0 ws.length), (1, .d (.int .i64 a)), (2, .d (.int .i64 a)), (3, .func (f, 0) [])]) (fun i => [.dat false 2 (ws.map dW)]) (fun i => True) trivial (Weak.sub (by simp [tget, hw0])) (fun i hi _ => by omega) (fun _ => ?_)
    have h' : ¬ (((a + 1 : Nat) : Int) < (a : Int)) := by omega
    simp (maxSteps := 2000000) -implicitDefEqProofs only [z00, z01, z02, z03, z04, z05, z06, z07, z08, z09, z0a, z0b, z0c, z0d, z0e, z0f, z0g, z0h, z0i, z0j, z0k, z0l, z0m, z0n, z0o, z0p, z0q, z0r, z0s, z0t, z0u, z0v, z0w, z0x, z0y, z0z, z10, z11, z12, z13, z14, z15, z16, z17, z18, z19, z1a, z1b, z1c, z1d, z1e, z1f, z1g, z1h, z1i, z1j, z1k, z1l, z1m, z1n, z1o, z1p, z1q, z1r, z1s, z1t, z1u, z1v, z1w, z1x, z1y, z1z, z20, z21, z22, z23, z24, z25, z26, z27, z28, z29, z2a, z2b, z2c, z2d, z2e, z2f, z2g, z2h, z2i, z2j, z2k, z2l, z2m, z2n, z2o, z2p, z2q, z2r, z2s, z2t, z2u, z2v, z2w, z2x, z2y, z2z, z30, z31, z32, z33, z34, z35, z36, z37, z38, z39, z3a, z3b, z3c, z3d, z3e, z3f, z3g, z3h, z3i, z3j, z3k, z3l, z3m, z3n, z3o, z3p, z3q, z3r, z3s, z3t, z3u, z3v, z3w, evop, ev, ofVal, tget, tput, ok, V.isUndef, intBin, guardOf, initT, Ch.on, calleeOf, withArgs, told, xport, xports, tids, tidss, hget, hput, Blk.ice, freeze, V.cells, D.cells, V.isAgg, V.one, V.clo, clos, V.toD, loadD, structAt, eqCells, D.scalarEq, sliceOf, partsD, partsV, bound, isPtr, Blk.width, elems, lenOf, splice, D.over, resOf, resV, resVs, z3x, z3y, z3z, z40, z41, ↓reduceIte, reduceCtorEq, ↓reduceDIte, Nat.reduceLT, Nat.reduceEqDiff, Nat.reduceAdd, Nat.reduceSub, Nat.reduceMul, Nat.reduceLeDiff, Nat.reduceBEq, Nat.reduceBNe, z42, z43, z44, z45, z46, z47, z48, z49, z4a, z4b, z4c, z4d, z4e, z4f, z4g, z4h, z4i, z4j, z4k, z4l, z4m, z4n, z4o, z4p, z4q, z4r, z4s, z4t, z4u, z4v, z4w, z4x, z4y, z4z, z50, z51, z52, z53, Int.reduceNeg, Int.reduceAdd, Int.reduceSub, Int.reduceToNat, z54, z55, z56, z57, z58, z59, z5a, z5b, nilTest, z5c, z5d, z5e, z5f, shiftH, Blk.ren, V.ren, renL, initV, frameH, putL, frρ, z5g, z5h, z5i, z5j, E2, E3, E4, E5, E6, E7, E8, E12, E15, E16, E17, E18, E19, E21, E22, E23, E24, E25, E26, E27, E30, E32, E50, E53, E56, E57, E71, E94, E96, E106, E111, E119, E120, E124, E126, E131, E132, E133, E135, E136, E138, E139, E140, E141, E142, dI, dW, h', e0]
    exact Weak.sub (by simp [tget])
  refine wloop_count (b - (a + 1)) (fun i => [(8, .d (.int .i64 ((a + 1 + i : Nat) : Int))), (0, .own 0 0 ws.length), (1, .d (.int .i64 a)), (2, .d (.int .i64 b)), (3, .func (f, 0) [])]) (fun i => [.dat false 2 ((sortPart lt ws a (a + 1 + i)).map dW)]) (fun i => True) trivial ?_ (fun i hi _ => ?_) (fun _ => ?_)
  · have e1 : sortPart lt ws a (a + 1 + 0) = ws := by
      have h1 : (ws.drop a).take (a + 1 + 0 - a) = [ws[a]] := by
        have : a + 1 + 0 - a = 1 := by omega
        rw [this, List.drop_eq_getElem_cons (by omega)]; rfl
      unfold sortPart
      rw [h1]
      have h2 : isort lt [ws[a]] = [ws[a]] := rfl
      rw [h2, List.append_assoc, List.singleton_append, ← List.drop_eq_getElem_cons (by omega), List.take_append_drop]
    rw [e1]
    exact Weak.sub (by simp [tget, hw0])
  · have h' : (((a + 1 + i : Nat) : Int) < (b : Int)) := by omega
    have hlt : a + 1 + i < ws.length := by omega
    obtain ⟨x, hx⟩ : ∃ x, x = ws[a + 1 + i] := ⟨_, rfl⟩
    obtain ⟨A, hA⟩ : ∃ A, A = isort lt ((ws.drop a).take (a + 1 + i - a)) := ⟨_, rfl⟩
    have hAl : A.length = 1 + i := by rw [hA, isort_length]; simp; omega
    have hPl : (ws.take a).length = a := by simp; omega
    have e1 : sortPart lt ws a (a + 1 + i) = insAt (ws.take a) A (ws.drop (a + 1 + i + 1)) x A.length := by
      unfold sortPart insAt
      rw [← hA, List.take_of_length_le (Nat.le_refl _), List.drop_of_length_le (Nat.le_refl _), List.drop_eq_getElem_cons hlt, hx]
      simp
    have e2 : ∀ k, insK lt x A = k → sortPart lt ws a (a + 1 + (i + 1)) = insAt (ws.take a) A (ws.drop (a + 1 + i + 1)) x k := fun k hk => by
      unfold sortPart insAt
      have h1 : (ws.drop a).take (a + 1 + (i + 1) - a) = (ws.drop a).take (a + 1 + i - a) ++ [x] := by
        have h2 : a + 1 + (i + 1) - a = (a + 1 + i - a) + 1 := by omega
        rw [h2, List.take_add_one, List.getElem?_drop]
        have h3 : a + (a + 1 + i - a) = a + 1 + i := by omega
        rw [h3, List.getElem?_eq_getElem hlt, hx]; rfl
      rw [h1, isort_snoc, ← hA, insR, hk]
      have h4 : a + 1 + (i + 1) = a + 1 + i + 1 := by omega
      rw [h4]
    have hIl : ∀ k, k ≤ A.length → (insAt (ws.take a) A (ws.drop (a + 1 + i + 1)) x k).length = ws.length := fun k hk => by
      rw [insAt_length hk, hPl, hAl]; simp; omega
    have hwi : IntKind.i64.wrap (((a + 1 + i : Nat) : Int) + 1) = ((a + 1 + (i + 1) : Nat) : Int) := by rw [wrap_in (by omega)]; omega
    simp (maxSteps := 2000000) -implicitDefEqProofs only [z00, z01, z02, z03, z04, z05, z06, z07, z08, z09, z0a, z0b, z0c, z0d, z0e, z0f, z0g, z0h, z0i, z0j, z0k, z0l, z0m, z0n, z0o, z0p, z0q, z0r, z0s, z0t, z0u, z0v, z0w, z0x, z0y, z0z, z10, z11, z12, z13, z14, z15, z16, z17, z18, z19, z1a, z1b, z1c, z1d, z1e, z1f, z1g, z1h, z1i, z1j, z1k, z1l, z1m, z1n, z1o, z1p, z1q, z1r, z1s, z1t, z1u, z1v, z1w, z1x, z1y, z1z, z20, z21, z22, z23, z24, z25, z26, z27, z28, z29, z2a, z2b, z2c, z2d, z2e, z2f, z2g, z2h, z2i, z2j, z2k, z2l, z2m, z2n, z2o, z2p, z2q, z2r, z2s, z2t, z2u, z2v, z2w, z2x, z2y, z2z, z30, z31, z32, z33, z34, z35, z36, z37, z38, z39, z3a, z3b, z3c, z3d, z3e, z3f, z3g, z3h, z3i, z3j, z3k, z3l, z3m, z3n, z3o, z3p, z3q, z3r, z3s, z3t, z3u, z3v, z3w, evop, ev, ofVal, tget, tput, ok, V.isUndef, intBin, guardOf, initT, Ch.on, calleeOf, withArgs, told, xport, xports, tids, tidss, hget, hput, Blk.ice, freeze, V.cells, D.cells, V.isAgg, V.one, V.clo, clos, V.toD, loadD, structAt, eqCells, D.scalarEq, sliceOf, partsD, partsV, bound, isPtr, Blk.width, elems, lenOf, splice, D.over, resOf, resV, resVs, z3x, z3y, z3z, z40, z41, ↓reduceIte, reduceCtorEq, ↓reduceDIte, Nat.reduceLT, Nat.reduceEqDiff, Nat.reduceAdd, Nat.reduceSub, Nat.reduceMul, Nat.reduceLeDiff, Nat.reduceBEq, Nat.reduceBNe, z42, z43, z44, z45, z46, z47, z48, z49, z4a, z4b, z4c, z4d, z4e, z4f, z4g, z4h, z4i, z4j, z4k, z4l, z4m, z4n, z4o, z4p, z4q, z4r, z4s, z4t, z4u, z4v, z4w, z4x, z4y, z4z, z50, z51, z52, z53, Int.reduceNeg, Int.reduceAdd, Int.reduceSub, Int.reduceToNat, z54, z55, z56, z57, z58, z59, z5a, z5b, nilTest, z5c, z5d, z5e, z5f, shiftH, Blk.ren, V.ren, renL, initV, frameH, putL, frρ, z5g, z5h, z5i, z5j, E2, E3, E4, E5, E6, E7, E8, E12, E15, E16, E17, E18, E19, E21, E22, E23, E24, E25, E26, E27, E30, E32, E50, E53, E56, E57, E71, E94, E96, E106, E111, E119, E120, E124, E126, E131, E132, E133, E135, E136, E138, E139, E140, E141, E142, dI, dW, h', e1]
    refine wloop_ind (σ := Nat) (fun k => k) (fun k => [(9, .d (.int .i64 ((a + k : Nat) : Int))), (8, .d (.int .i64 ((a + 1 + i : Nat) : Int))), (0, .own 0 0 ws.length), (1, .d (.int .i64 a)), (2, .d (.int .i64 b)), (3, .func (f, 0) [])])
      (fun k => [.dat false 2 ((insAt (ws.take a) A (ws.drop (a + 1 + i + 1)) x k).map dW)]) (fun k => k ≤ A.length ∧ ∀ i, k ≤ i → ∀ y, A[i]? = some y → lt x y = true) A.length ⟨Nat.le_refl _, fun i hi y hy => by have := (List.getElem?_eq_some_iff.1 hy).1; omega⟩ (Weak.sub ?_) ?_
    · have : ((a + A.length : Nat) : Int) = ((a + 1 + i : Nat) : Int) := by omega
      simp [tget, this]
    rintro k ⟨hk, hgt⟩
    rcases Nat.eq_zero_or_pos k with hk0 | hk0
    · subst hk0
      have hf' : ¬ ((a : Int) < (a : Int)) := by omega
      have e3 := e2 0 (insK_eq (Nat.zero_le _) hgt (.inl rfl))
      simp (maxSteps := 2000000) -implicitDefEqProofs only [z00, z01, z02, z03, z04, z05, z06, z07, z08, z09, z0a, z0b, z0c, z0d, z0e, z0f, z0g, z0h, z0i, z0j, z0k, z0l, z0m, z0n, z0o, z0p, z0q, z0r, z0s, z0t, z0u, z0v, z0w, z0x, z0y, z0z, z10, z11, z12, z13, z14, z15, z16, z17, z18, z19, z1a, z1b, z1c, z1d, z1e, z1f, z1g, z1h, z1i, z1j, z1k, z1l, z1m, z1n, z1o, z1p, z1q, z1r, z1s, z1t, z1u, z1v, z1w, z1x, z1y, z1z, z20, z21, z22, z23, z24, z25, z26, z27, z28, z29, z2a, z2b, z2c, z2d, z2e, z2f, z2g, z2h, z2i, z2j, z2k, z2l, z2m, z2n, z2o, z2p, z2q, z2r, z2s, z2t, z2u, z2v, z2w, z2x, z2y, z2z, z30, z31, z32, z33, z34, z35, z36, z37, z38, z39, z3a, z3b, z3c, z3d, z3e, z3f, z3g, z3h, z3i, z3j, z3k, z3l, z3m, z3n, z3o, z3p, z3q, z3r, z3s, z3t, z3u, z3v, z3w, evop, ev, ofVal, tget, tput, ok, V.isUndef, intBin, guardOf, initT, Ch.on, calleeOf, withArgs, told, xport, xports, tids, tidss, hget, hput, Blk.ice, freeze, V.cells, D.cells, V.isAgg, V.one, V.clo, clos, V.toD, loadD, structAt, eqCells, D.scalarEq, sliceOf, partsD, partsV, bound, isPtr, Blk.width, elems, lenOf, splice, D.over, resOf, resV, resVs, z3x, z3y, z3z, z40, z41, ↓reduceIte, reduceCtorEq, ↓reduceDIte, Nat.reduceLT, Nat.reduceEqDiff, Nat.reduceAdd, Nat.reduceSub, Nat.reduceMul, Nat.reduceLeDiff, Nat.reduceBEq, Nat.reduceBNe, z42, z43, z44, z45, z46, z47, z48, z49, z4a, z4b, z4c, z4d, z4e, z4f, z4g, z4h, z4i, z4j, z4k, z4l, z4m, z4n, z4o, z4p, z4q, z4r, z4s, z4t, z4u, z4v, z4w, z4x, z4y, z4z, z50, z51, z52, z53, Int.reduceNeg, Int.reduceAdd, Int.reduceSub, Int.reduceToNat, z54, z55, z56, z57, z58, z59, z5a, z5b, nilTest, z5c, z5d, z5e, z5f, shiftH, Blk.ren, V.ren, renL, initV, frameH, putL, frρ, z5g, z5h, z5i, z5j, E2, E3, E4, E5, E6, E7, E8, E12, E15, E16, E17, E18, E19, E21, E22, E23, E24, E25, E26, E27, E30, E32, E50, E53, E56, E57, E71, E94, E96, E106, E111, E119, E120, E124, E126, E131, E132, E133, E135, E136, E138, E139, E140, E141, E142, dI, dW, hf']
      refine wdraw_plan [⟨[], false, [19], [], false⟩, ⟨[], false, [18], [0], false⟩, ⟨[0, 1], true, [], [], false⟩, ⟨[0, 1, 2], true, [], [], false⟩, ⟨[0, 1, 2, 3], false, [23, 24, 25, 26, 27, 28, 29, 30, 31], [], false⟩, ⟨[0, 1, 2, 3], false, [22, 24, 27, 28, 29, 30, 31], [4], false⟩, ⟨[0, 1, 2, 3], false, [22, 23, 27, 28, 29, 30, 31], [4, 5], false⟩, ⟨[0, 1, 2, 3, 5, 6], false, [22, 27, 28, 29, 30, 31], [4], false⟩, ⟨[0, 1, 2, 3, 5, 6, 7], false, [22, 27, 28, 29, 30, 31], [4], false⟩, ⟨[0, 1, 2, 3], false, [22, 23, 24, 25, 26, 28, 29], [4, 5, 6, 7, 8], false⟩, ⟨[0, 1, 2, 3], false, [22, 23, 24, 25, 26, 27], [4, 5, 6, 7, 8, 9], false⟩, ⟨[0, 1, 2, 3, 10], false, [22, 23, 24, 25, 26, 27], [4, 5, 6, 7, 8, 9], false⟩, ⟨[0, 1, 2, 3, 9, 10, 11], false, [22, 23, 24, 25, 26], [4, 5, 6, 7, 8], false⟩, ⟨[0, 1, 2, 3, 9, 10, 11, 12], false, [22, 23, 24, 25, 26], [4, 5, 6, 7, 8], false⟩, ⟨[0, 1, 2, 3, 4, 5, 6, 7, 8, 9, 10, 11, 12, 13], false, [], [], false⟩, ⟨[0, 1, 2, 3, 4, 5, 6, 7, 8, 9, 10, 11, 12, 13, 14], false, [], [], false⟩, ⟨[0, 1, 2, 3, 4, 5, 6, 7, 8, 9, 10, 11, 12, 13, 14, 15], true, [], [], false⟩] (by decide) ?_
      simp (maxSteps := 2000000) -implicitDefEqProofs only [z00, z01, z02, z03, z04, z05, z06, z07, z08, z09, z0a, z0b, z0c, z0d, z0e, z0f, z0g, z0h, z0i, z0j, z0k, z0l, z0m, z0n, z0o, z0p, z0q, z0r, z0s, z0t, z0u, z0v, z0w, z0x, z0y, z0z, z10, z11, z12, z13, z14, z15, z16, z17, z18, z19, z1a, z1b, z1c, z1d, z1e, z1f, z1g, z1h, z1i, z1j, z1k, z1l, z1m, z1n, z1o, z1p, z1q, z1r, z1s, z1t, z1u, z1v, z1w, z1x, z1y, z1z, z20, z21, z22, z23, z24, z25, z26, z27, z28, z29, z2a, z2b, z2c, z2d, z2e, z2f, z2g, z2h, z2i, z2j, z2k, z2l, z2m, z2n, z2o, z2p, z2q, z2r, z2s, z2t, z2u, z2v, z2w, z2x, z2y, z2z, z30, z31, z32, z33, z34, z35, z36, z37, z38, z39, z3a, z3b, z3c, z3d, z3e, z3f, z3g, z3h, z3i, z3j, z3k, z3l, z3m, z3n, z3o, z3p, z3q, z3r, z3s, z3t, z3u, z3v, z3w, evop, ev, ofVal, tget, tput, ok, V.isUndef, intBin, guardOf, initT, Ch.on, calleeOf, withArgs, told, xport, xports, tids, tidss, hget, hput, Blk.ice, freeze, V.cells, D.cells, V.isAgg, V.one, V.clo, clos, V.toD, loadD, structAt, eqCells, D.scalarEq, sliceOf, partsD, partsV, bound, isPtr, Blk.width, elems, lenOf, splice, D.over, resOf, resV, resVs, z3x, z3y, z3z, z40, z41, ↓reduceIte, reduceCtorEq, ↓reduceDIte, Nat.reduceLT, Nat.reduceEqDiff, Nat.reduceAdd, Nat.reduceSub, Nat.reduceMul, Nat.reduceLeDiff, Nat.reduceBEq, Nat.reduceBNe, z42, z43, z44, z45, z46, z47, z48, z49, z4a, z4b, z4c, z4d, z4e, z4f, z4g, z4h, z4i, z4j, z4k, z4l, z4m, z4n, z4o, z4p, z4q, z4r, z4s, z4t, z4u, z4v, z4w, z4x, z4y, z4z, z50, z51, z52, z53, Int.reduceNeg, Int.reduceAdd, Int.reduceSub, Int.reduceToNat, z54, z55, z56, z57, z58, z59, z5a, z5b, nilTest, z5c, z5d, z5e, z5f, shiftH, Blk.ren, V.ren, renL, initV, frameH, putL, frρ, z5g, z5h, z5i, z5j, E2, E3, E4, E5, E6, E7, E8, E12, E15, E16, E17, E18, E19, E21, E22, E23, E24, E25, E26, E27, E30, E32, E50, E53, E56, E57, E71, E94, E96, E106, E111, E119, E120, E124, E126, E131, E132, E133, E135, E136, E138, E139, E140, E141, E142, dI, dW, hf']
      rw [e3]
      exact Weak.trimsM 1 (by simp) rfl (by simp [tget, V.lower, lowerL]; rw [wrap_in (by omega)]; omega) (by simp [Blk.lower])
    · obtain ⟨k, rfl⟩ : ∃ k', k = k' + 1 := ⟨k - 1, by omega⟩
      have hgy : A[k]? = some A[k] := List.getElem?_eq_getElem (by omega)
      obtain ⟨y, hy⟩ : ∃ y, y = A[k] := ⟨_, rfl⟩
      rw [← hy] at hgy
      have hg1 : (insAt (ws.take a) A (ws.drop (a + 1 + i + 1)) x (k + 1))[a + (k + 1)]? = some x := by
        rw [insAt_get hk, hPl, if_neg (by omega), if_neg (by omega), if_pos rfl]
      have hg0 : (insAt (ws.take a) A (ws.drop (a + 1 + i + 1)) x (k + 1))[a + k]? = some y := by
        rw [insAt_get hk, hPl, if_neg (by omega), if_pos (by omega)]
        have : a + k - a = k := by omega
        rw [this]; exact hgy
      have hg2 : ((insAt (ws.take a) A (ws.drop (a + 1 + i + 1)) x (k + 1)).set (a + (k + 1)) y)[a + k]? = some y := by
        rw [List.getElem?_set_ne (by omega)]; exact hg0
      have hsw : ((insAt (ws.take a) A (ws.drop (a + 1 + i + 1)) x (k + 1)).set (a + (k + 1)) y).set (a + k) x = insAt (ws.take a) A (ws.drop (a + 1 + i + 1)) x k := by
        have := insAt_swap (P := ws.take a) (R := ws.drop (a + 1 + i + 1)) (x := x) hk hgy
        rw [hPl] at this; exact this
      have hf' : ((a : Int) < ((a + (k + 1) : Nat) : Int)) := by omega
      have hw1 : IntKind.i64.wrap (((a + (k + 1) : Nat) : Int) - 1) = ((a + k : Nat) : Int) := by rw [wrap_in (by omega)]; omega
      simp (maxSteps := 2000000) -implicitDefEqProofs only [z00, z01, z02, z03, z04, z05, z06, z07, z08, z09, z0a, z0b, z0c, z0d, z0e, z0f, z0g, z0h, z0i, z0j, z0k, z0l, z0m, z0n, z0o, z0p, z0q, z0r, z0s, z0t, z0u, z0v, z0w, z0x, z0y, z0z, z10, z11, z12, z13, z14, z15, z16, z17, z18, z19, z1a, z1b, z1c, z1d, z1e, z1f, z1g, z1h, z1i, z1j, z1k, z1l, z1m, z1n, z1o, z1p, z1q, z1r, z1s, z1t, z1u, z1v, z1w, z1x, z1y, z1z, z20, z21, z22, z23, z24, z25, z26, z27, z28, z29, z2a, z2b, z2c, z2d, z2e, z2f, z2g, z2h, z2i, z2j, z2k, z2l, z2m, z2n, z2o, z2p, z2q, z2r, z2s, z2t, z2u, z2v, z2w, z2x, z2y, z2z, z30, z31, z32, z33, z34, z35, z36, z37, z38, z39, z3a, z3b, z3c, z3d, z3e, z3f, z3g, z3h, z3i, z3j, z3k, z3l, z3m, z3n, z3o, z3p, z3q, z3r, z3s, z3t, z3u, z3v, z3w, evop, ev, ofVal, tget, tput, ok, V.isUndef, intBin, guardOf, initT, Ch.on, calleeOf, withArgs, told, xport, xports, tids, tidss, hget, hput, Blk.ice, freeze, V.cells, D.cells, V.isAgg, V.one, V.clo, clos, V.toD, loadD, structAt, eqCells, D.scalarEq, sliceOf, partsD, partsV, bound, isPtr, Blk.width, elems, lenOf, splice, D.over, resOf, resV, resVs, z3x, z3y, z3z, z40, z41, ↓reduceIte, reduceCtorEq, ↓reduceDIte, Nat.reduceLT, Nat.reduceEqDiff, Nat.reduceAdd, Nat.reduceSub, Nat.reduceMul, Nat.reduceLeDiff, Nat.reduceBEq, Nat.reduceBNe, z42, z43, z44, z45, z46, z47, z48, z49, z4a, z4b, z4c, z4d, z4e, z4f, z4g, z4h, z4i, z4j, z4k, z4l, z4m, z4n, z4o, z4p, z4q, z4r, z4s, z4t, z4u, z4v, z4w, z4x, z4y, z4z, z50, z51, z52, z53, Int.reduceNeg, Int.reduceAdd, Int.reduceSub, Int.reduceToNat, z54, z55, z56, z57, z58, z59, z5a, z5b, nilTest, z5c, z5d, z5e, z5f, shiftH, Blk.ren, V.ren, renL, initV, frameH, putL, frρ, z5g, z5h, z5i, z5j, E2, E3, E4, E5, E6, E7, E8, E12, E15, E16, E17, E18, E19, E21, E22, E23, E24, E25, E26, E27, E30, E32, E50, E53, E56, E57, E71, E94, E96, E106, E111, E119, E120, E124, E126, E131, E132, E133, E135, E136, E138, E139, E140, E141, E142, dI, dW, hf']
      refine wdraw_plan [⟨[], false, [19], [], false⟩, ⟨[], false, [18], [0], false⟩, ⟨[0, 1], true, [], [], false⟩, ⟨[0, 1, 2], true, [], [], false⟩, ⟨[0, 1, 2, 3], false, [23, 24, 25, 26, 27, 28, 29, 30, 31], [], false⟩, ⟨[0, 1, 2, 3], false, [22, 24, 27, 28, 29, 30, 31], [4], false⟩, ⟨[0, 1, 2, 3], false, [22, 23, 27, 28, 29, 30, 31], [4, 5], false⟩, ⟨[0, 1, 2, 3, 5, 6], false, [22, 27, 28, 29, 30, 31], [4], false⟩, ⟨[0, 1, 2, 3, 5, 6, 7], false, [22, 27, 28, 29, 30, 31], [4], false⟩, ⟨[0, 1, 2, 3], false, [22, 23, 24, 25, 26, 28, 29], [4, 5, 6, 7, 8], false⟩, ⟨[0, 1, 2, 3], false, [22, 23, 24, 25, 26, 27], [4, 5, 6, 7, 8, 9], false⟩, ⟨[0, 1, 2, 3, 10], false, [22, 23, 24, 25, 26, 27], [4, 5, 6, 7, 8, 9], false⟩, ⟨[0, 1, 2, 3, 9, 10, 11], false, [22, 23, 24, 25, 26], [4, 5, 6, 7, 8], false⟩, ⟨[0, 1, 2, 3, 9, 10, 11, 12], false, [22, 23, 24, 25, 26], [4, 5, 6, 7, 8], false⟩, ⟨[0, 1, 2, 3, 4, 5, 6, 7, 8, 9, 10, 11, 12, 13], false, [], [], false⟩, ⟨[0, 1, 2, 3, 4, 5, 6, 7, 8, 9, 10, 11, 12, 13, 14], false, [], [], false⟩, ⟨[0, 1, 2, 3, 4, 5, 6, 7, 8, 9, 10, 11, 12, 13, 14, 15], true, [], [], false⟩] (by decide) ?_
      simp (maxSteps := 2000000) -implicitDefEqProofs only [z00, z01, z02, z03, z04, z05, z06, z07, z08, z09, z0a, z0b, z0c, z0d, z0e, z0f, z0g, z0h, z0i, z0j, z0k, z0l, z0m, z0n, z0o, z0p, z0q, z0r, z0s, z0t, z0u, z0v, z0w, z0x, z0y, z0z, z10, z11, z12, z13, z14, z15, z16, z17, z18, z19, z1a, z1b, z1c, z1d, z1e, z1f, z1g, z1h, z1i, z1j, z1k, z1l, z1m, z1n, z1o, z1p, z1q, z1r, z1s, z1t, z1u, z1v, z1w, z1x, z1y, z1z, z20, z21, z22, z23, z24, z25, z26, z27, z28, z29, z2a, z2b, z2c, z2d, z2e, z2f, z2g, z2h, z2i, z2j, z2k, z2l, z2m, z2n, z2o, z2p, z2q, z2r, z2s, z2t, z2u, z2v, z2w, z2x, z2y, z2z, z30, z31, z32, z33, z34, z35, z36, z37, z38, z39, z3a, z3b, z3c, z3d, z3e, z3f, z3g, z3h, z3i, z3j, z3k, z3l, z3m, z3n, z3o, z3p, z3q, z3r, z3s, z3t, z3u, z3v, z3w, evop, ev, ofVal, tget, tput, ok, V.isUndef, intBin, guardOf, initT, Ch.on, calleeOf, withArgs, told, xport, xports, tids, tidss, hget, hput, Blk.ice, freeze, V.cells, D.cells, V.isAgg, V.one, V.clo, clos, V.toD, loadD, structAt, eqCells, D.scalarEq, sliceOf, partsD, partsV, bound, isPtr, Blk.width, elems, lenOf, splice, D.over, resOf, resV, resVs, z3x, z3y, z3z, z40, z41, ↓reduceIte, reduceCtorEq, ↓reduceDIte, Nat.reduceLT, Nat.reduceEqDiff, Nat.reduceAdd, Nat.reduceSub, Nat.reduceMul, Nat.reduceLeDiff, Nat.reduceBEq, Nat.reduceBNe, z42, z43, z44, z45, z46, z47, z48, z49, z4a, z4b, z4c, z4d, z4e, z4f, z4g, z4h, z4i, z4j, z4k, z4l, z4m, z4n, z4o, z4p, z4q, z4r, z4s, z4t, z4u, z4v, z4w, z4x, z4y, z4z, z50, z51, z52, z53, Int.reduceNeg, Int.reduceAdd, Int.reduceSub, Int.reduceToNat, z54, z55, z56, z57, z58, z59, z5a, z5b, nilTest, z5c, z5d, z5e, z5f, shiftH, Blk.ren, V.ren, renL, initV, frameH, putL, frρ, z5g, z5h, z5i, z5j, E2, E3, E4, E5, E6, E7, E8, E12, E15, E16, E17, E18, E19, E21, E22, E23, E24, E25, E26, E27, E30, E32, E50, E53, E56, E57, E71, E94, E96, E106, E111, E119, E120, E124, E126, E131, E132, E133, E135, E136, E138, E139, E140, E141, E142, dI, dW, hf', hw1, List.getElem?_map, hg1, hg0, Option.map_some, Int.natCast_nonneg]
      refine ⟨by omega, by omega, ?_⟩
      refine dcall_flat (ds := [dW x, dW y]) (by simp only [xports, xport, dW]) (hc x y) rfl ?_
      simp (maxSteps := 2000000) -implicitDefEqProofs only [z00, z01, z02, z03, z04, z05, z06, z07, z08, z09, z0a, z0b, z0c, z0d, z0e, z0f, z0g, z0h, z0i, z0j, z0k, z0l, z0m, z0n, z0o, z0p, z0q, z0r, z0s, z0t, z0u, z0v, z0w, z0x, z0y, z0z, z10, z11, z12, z13, z14, z15, z16, z17, z18, z19, z1a, z1b, z1c, z1d, z1e, z1f, z1g, z1h, z1i, z1j, z1k, z1l, z1m, z1n, z1o, z1p, z1q, z1r, z1s, z1t, z1u, z1v, z1w, z1x, z1y, z1z, z20, z21, z22, z23, z24, z25, z26, z27, z28, z29, z2a, z2b, z2c, z2d, z2e, z2f, z2g, z2h, z2i, z2j, z2k, z2l, z2m, z2n, z2o, z2p, z2q, z2r, z2s, z2t, z2u, z2v, z2w, z2x, z2y, z2z, z30, z31, z32, z33, z34, z35, z36, z37, z38, z39, z3a, z3b, z3c, z3d, z3e, z3f, z3g, z3h, z3i, z3j, z3k, z3l, z3m, z3n, z3o, z3p, z3q, z3r, z3s, z3t, z3u, z3v, z3w, evop, ev, ofVal, tget, tput, ok, V.isUndef, intBin, guardOf, initT, Ch.on, calleeOf, withArgs, told, xport, xports, tids, tidss, hget, hput, Blk.ice, freeze, V.cells, D.cells, V.isAgg, V.one, V.clo, clos, V.toD, loadD, structAt, eqCells, D.scalarEq, sliceOf, partsD, partsV, bound, isPtr, Blk.width, elems, lenOf, splice, D.over, resOf, resV, resVs, z3x, z3y, z3z, z40, z41, ↓reduceIte, reduceCtorEq, ↓reduceDIte, Nat.reduceLT, Nat.reduceEqDiff, Nat.reduceAdd, Nat.reduceSub, Nat.reduceMul, Nat.reduceLeDiff, Nat.reduceBEq, Nat.reduceBNe, z42, z43, z44, z45, z46, z47, z48, z49, z4a, z4b, z4c, z4d, z4e, z4f, z4g, z4h, z4i, z4j, z4k, z4l, z4m, z4n, z4o, z4p, z4q, z4r, z4s, z4t, z4u, z4v, z4w, z4x, z4y, z4z, z50, z51, z52, z53, Int.reduceNeg, Int.reduceAdd, Int.reduceSub, Int.reduceToNat, z54, z55, z56, z57, z58, z59, z5a, z5b, nilTest, z5c, z5d, z5e, z5f, shiftH, Blk.ren, V.ren, renL, initV, frameH, putL, frρ, z5g, z5h, z5i, z5j, E2, E3, E4, E5, E6, E7, E8, E12, E15, E16, E17, E18, E19, E21, E22, E23, E24, E25, E26, E27, E30, E32, E50, E53, E56, E57, E71, E94, E96, E106, E111, E119, E120, E124, E126, E131, E132, E133, E135, E136, E138, E139, E140, E141, E142, dI, dW]
      split
      · rename_i hlt'
        refine wdraw_plan [⟨[], false, [38, 39, 40, 41, 42, 43, 44, 45, 46, 47, 48, 49, 50], [], false⟩, ⟨[], false, [37, 39, 40, 41, 42, 43, 44, 45, 46, 47, 48, 49, 50], [0], false⟩, ⟨[], false, [37, 38, 39, 40, 41, 42, 43, 44, 45, 46, 47, 48, 49, 50, 51, 52], [0, 1], true⟩, ⟨[], false, [37, 38, 39, 40, 41, 42, 43, 44, 45, 46, 47, 48, 49, 50, 51, 52], [0, 1, 2], true⟩, ⟨[3], false, [37, 38, 39, 41, 42, 43, 44, 45, 46, 47, 48, 49, 50, 51, 52], [0, 1, 2], true⟩, ⟨[], false, [37, 38, 39, 40, 41, 43, 44, 47, 48, 49, 50], [0, 1, 2, 3, 4], false⟩, ⟨[], false, [37, 38, 39, 40, 41, 42, 47, 48, 49, 50], [0, 1, 2, 3, 4, 5], false⟩, ⟨[6], false, [37, 38, 39, 40, 41, 42, 47, 48, 49, 50], [0, 1, 2, 3, 4, 5], false⟩, ⟨[5, 6, 7], false, [37, 38, 39, 40, 41, 47, 48, 49, 50], [0, 1, 2, 3, 4], false⟩, ⟨[5, 6, 7, 8], false, [37, 38, 39, 40, 41, 47, 48, 49, 50], [0, 1, 2, 3, 4], false⟩, ⟨[], false, [37, 38, 39, 40, 41, 42, 43, 44, 45, 46, 48], [0, 1, 2, 3, 4, 5, 6, 7, 8, 9], false⟩, ⟨[], false, [37, 38, 39, 40, 41, 42, 43, 44, 45, 46, 47], [0, 1, 2, 3, 4, 5, 6, 7, 8, 9, 10], false⟩, ⟨[10, 11], false, [37, 38, 39, 40, 41, 42, 43, 44, 45, 46], [0, 1, 2, 3, 4, 5, 6, 7, 8, 9], false⟩, ⟨[10, 11, 12], false, [37, 38, 39, 40, 41, 42, 43, 44, 45, 46], [0, 1, 2, 3, 4, 5, 6, 7, 8, 9], false⟩, ⟨[0, 1, 5, 6, 7, 8, 9, 10, 11, 12, 13], false, [39, 40, 41], [2, 3, 4], false⟩, ⟨[0, 1, 5, 6, 7, 8, 9, 10, 11, 12, 13, 14], true, [39, 40, 41], [], false⟩, ⟨[0, 1, 2, 3, 4, 5, 6, 7, 8, 9, 10, 11, 12, 13, 14, 15], true, [], [], false⟩, ⟨[0, 1, 2, 3, 4, 5, 6, 7, 8, 9, 10, 11, 12, 13, 14, 15, 16], true, [], [], false⟩] (by decide) ?_
        simp (maxSteps := 2000000) -implicitDefEqProofs only [z00, z01, z02, z03, z04, z05, z06, z07, z08, z09, z0a, z0b, z0c, z0d, z0e, z0f, z0g, z0h, z0i, z0j, z0k, z0l, z0m, z0n, z0o, z0p, z0q, z0r, z0s, z0t, z0u, z0v, z0w, z0x, z0y, z0z, z10, z11, z12, z13, z14, z15, z16, z17, z18, z19, z1a, z1b, z1c, z1d, z1e, z1f, z1g, z1h, z1i, z1j, z1k, z1l, z1m, z1n, z1o, z1p, z1q, z1r, z1s, z1t, z1u, z1v, z1w, z1x, z1y, z1z, z20, z21, z22, z23, z24, z25, z26, z27, z28, z29, z2a, z2b, z2c, z2d, z2e, z2f, z2g, z2h, z2i, z2j, z2k, z2l, z2m, z2n, z2o, z2p, z2q, z2r, z2s, z2t, z2u, z2v, z2w, z2x, z2y, z2z, z30, z31, z32, z33, z34, z35, z36, z37, z38, z39, z3a, z3b, z3c, z3d, z3e, z3f, z3g, z3h, z3i, z3j, z3k, z3l, z3m, z3n, z3o, z3p, z3q, z3r, z3s, z3t, z3u, z3v, z3w, evop, ev, ofVal, tget, tput, ok, V.isUndef, intBin, guardOf, initT, Ch.on, calleeOf, withArgs, told, xport, xports, tids, tidss, hget, hput, Blk.ice, freeze, V.cells, D.cells, V.isAgg, V.one, V.clo, clos, V.toD, loadD, structAt, eqCells, D.scalarEq, sliceOf, partsD, partsV, bound, isPtr, Blk.width, elems, lenOf, splice, D.over, resOf, resV, resVs, z3x, z3y, z3z, z40, z41, ↓reduceIte, reduceCtorEq, ↓reduceDIte, Nat.reduceLT, Nat.reduceEqDiff, Nat.reduceAdd, Nat.reduceSub, Nat.reduceMul, Nat.reduceLeDiff, Nat.reduceBEq, Nat.reduceBNe, z42, z43, z44, z45, z46, z47, z48, z49, z4a, z4b, z4c, z4d, z4e, z4f, z4g, z4h, z4i, z4j, z4k, z4l, z4m, z4n, z4o, z4p, z4q, z4r, z4s, z4t, z4u, z4v, z4w, z4x, z4y, z4z, z50, z51, z52, z53, Int.reduceNeg, Int.reduceAdd, Int.reduceSub, Int.reduceToNat, z54, z55, z56, z57, z58, z59, z5a, z5b, nilTest, z5c, z5d, z5e, z5f, shiftH, Blk.ren, V.ren, renL, initV, frameH, putL, frρ, z5g, z5h, z5i, z5j, E2, E3, E4, E5, E6, E7, E8, E12, E15, E16, E17, E18, E19, E21, E22, E23, E24, E25, E26, E27, E30, E32, E50, E53, E56, E57, E71, E94, E96, E106, E111, E119, E120, E124, E126, E131, E132, E133, E135, E136, E138, E139, E140, E141, E142, dI, dW, hw1, List.getElem?_map, hg1, hg0, hg2, Option.map_some, Int.natCast_nonneg, set_dW, hsw]
        refine ⟨by omega, by omega, by omega, by omega, k, ⟨by omega, fun i hi z hz => ?_⟩, by omega, Weak.trimsM 1 (by simp) rfl (by simp [tget, hw1, V.lower, lowerL]) (by simp [Blk.lower])⟩
        by_cases e : i = k
        · subst e; rw [hgy] at hz; cases hz; simpa [lt] using hlt'
        · exact hgt i (by omega) z hz
      · rename_i hlt'
        have e3 := e2 (k + 1) (insK_eq hk hgt (.inr ⟨y, by simpa using hgy, by simpa [lt] using hlt'⟩))
        rw [e3]
        exact Weak.trimsM 1 (by simp) rfl (by simp [tget, V.lower, lowerL]; rw [wrap_in (by omega)]; omega) (by simp [Blk.lower])
  · have h' : ¬ (((a + 1 + (b - (a + 1)) : Nat) : Int) < (b : Int)) := by omega
    have e1 : a + 1 + (b - (a + 1)) = b := by omega
    have h'' : ¬ ((b : Int) < (b : Int)) := by omega
    simp (maxSteps := 2000000) -implicitDefEqProofs only [z00, z01, z02, z03, z04, z05, z06, z07, z08, z09, z0a, z0b, z0c, z0d, z0e, z0f, z0g, z0h, z0i, z0j, z0k, z0l, z0m, z0n, z0o, z0p, z0q, z0r, z0s, z0t, z0u, z0v, z0w, z0x, z0y, z0z, z10, z11, z12, z13, z14, z15, z16, z17, z18, z19, z1a, z1b, z1c, z1d, z1e, z1f, z1g, z1h, z1i, z1j, z1k, z1l, z1m, z1n, z1o, z1p, z1q, z1r, z1s, z1t, z1u, z1v, z1w, z1x, z1y, z1z, z20, z21, z22, z23, z24, z25, z26, z27, z28, z29, z2a, z2b, z2c, z2d, z2e, z2f, z2g, z2h, z2i, z2j, z2k, z2l, z2m, z2n, z2o, z2p, z2q, z2r, z2s, z2t, z2u, z2v, z2w, z2x, z2y, z2z, z30, z31, z32, z33, z34, z35, z36, z37, z38, z39, z3a, z3b, z3c, z3d, z3e, z3f, z3g, z3h, z3i, z3j, z3k, z3l, z3m, z3n, z3o, z3p, z3q, z3r, z3s, z3t, z3u, z3v, z3w, evop, ev, ofVal, tget, tput, ok, V.isUndef, intBin, guardOf, initT, Ch.on, calleeOf, withArgs, told, xport, xports, tids, tidss, hget, hput, Blk.ice, freeze, V.cells, D.cells, V.isAgg, V.one, V.clo, clos, V.toD, loadD, structAt, eqCells, D.scalarEq, sliceOf, partsD, partsV, bound, isPtr, Blk.width, elems, lenOf, splice, D.over, resOf, resV, resVs, z3x, z3y, z3z, z40, z41, ↓reduceIte, reduceCtorEq, ↓reduceDIte, Nat.reduceLT, Nat.reduceEqDiff, Nat.reduceAdd, Nat.reduceSub, Nat.reduceMul, Nat.reduceLeDiff, Nat.reduceBEq, Nat.reduceBNe, z42, z43, z44, z45, z46, z47, z48, z49, z4a, z4b, z4c, z4d, z4e, z4f, z4g, z4h, z4i, z4j, z4k, z4l, z4m, z4n, z4o, z4p, z4q, z4r, z4s, z4t, z4u, z4v, z4w, z4x, z4y, z4z, z50, z51, z52, z53, Int.reduceNeg, Int.reduceAdd, Int.reduceSub, Int.reduceToNat, z54, z55, z56, z57, z58, z59, z5a, z5b, nilTest, z5c, z5d, z5e, z5f, shiftH, Blk.ren, V.ren, renL, initV, frameH, putL, frρ, z5g, z5h, z5i, z5j, E2, E3, E4, E5, E6, E7, E8, E12, E15, E16, E17, E18, E19, E21, E22, E23, E24, E25, E26, E27, E30, E32, E50, E53, E56, E57, E71, E94, E96, E106, E111, E119, E120, E124, E126, E131, E132, E133, E135, E136, E138, E139, E140, E141, E142, dI, dW, h'', e1]
    refine Weak.sub (T := [(0, V.tuple [])]) (H := [.dat false 2 ((sortPart lt ws a b).map dW)]) ?_
    simp [tget]

end Go.Proofs.Ythpapgbpmkgfeaa.AM
