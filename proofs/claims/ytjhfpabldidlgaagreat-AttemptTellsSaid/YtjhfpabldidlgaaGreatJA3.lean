/- The texts Ta, Fd, Fe, Gn, Tc, Am29, Td, Te, Tf, Tg, Th, Am31, Am32, Fy, Ff, Fg, Fh, Fs, Ti, joined. -/
import Derived.Sort.Grow
import Derived.Lib.SlicesCompact
import Derived.Test.YtjhfpabldidlgaaGreatShS
import Derived.Test.YtjhfpabldidlgaaGreatShC
import Derived.Test.YtjhfpabldidlgaaGreatJA2

/- Values that go round; truths. -/
set_option linter.all false
set_option maxRecDepth 100000
set_option maxHeartbeats 4000000
namespace Go.Proofs.YtjhfpabldidlgaaGreat.AM
open Go Go.RowKit

def w32 (n : Int) : Int := (n + 2147483648) % 4294967296 - 2147483648
theorem w32_rng (n : Int) : -2147483648 ≤ w32 n ∧ w32 n ≤ 2147483647 := by unfold w32; omega
theorem w32_id {n : Int} (h : spanR n = true) : w32 n = n := by
  simp only [spanR, Bool.and_eq_true, decide_eq_true_eq] at h
  unfold w32; omega
theorem w32_span (n : Int) : spanR (w32 n) = true := by
  have := w32_rng n
  simp only [spanR, Bool.and_eq_true, decide_eq_true_eq]; omega
def tr (b : Bool) : Int := if b = true then 1 else 0
theorem tr_span (b : Bool) : spanR (tr b) = true := by cases b <;> decide

theorem mul_bd {A B x y : Int} (hA : 0 ≤ A) (hB : 0 ≤ B) (hx : -A ≤ x ∧ x ≤ A) (hy : -B ≤ y ∧ y ≤ B) : -(A * B) ≤ x * y ∧ x * y ≤ A * B := by
  have h1 : (x * y).natAbs ≤ (A * B).natAbs := by
    rw [Int.natAbs_mul, Int.natAbs_mul]
    exact Nat.mul_le_mul (by omega) (by omega)
  have h2 : 0 ≤ A * B := Int.mul_nonneg hA hB
  generalize x * y = z at *
  generalize A * B = u at *
  omega

theorem c_Truth (b : Bool) : CSpec Tryz.prog 216 [.bool b] (.int .i64 (tr b)) := by
  refine CSpec.of_awp envOf_ok hmix Tryz.func216 rfl (fun args w => Tryz.call216 args w) (by simp [Tryz.f216]) ?_
  simp only [Tryz.f216]
  simp (maxSteps := 2000000) -implicitDefEqProofs only [zz, evop, ev, ofVal, tget, tput, ok, V.isUndef, initT, Ch.on, told, xport, resOf, resV, resVs, ↓reduceIte, reduceCtorEq, Nat.reduceLT]
  unfold tr
  cases b <;> simp
theorem c_r07_truth (b : Bool) : CSpec Tryz.prog 180 [.bool b] (.int .i64 (tr b)) := by
  refine CSpec.of_awp envOf_ok hmix Tryz.func180 rfl (fun args w => Tryz.call180 args w) (by simp [Tryz.f180]) ?_
  simp only [Tryz.f180]
  simp (maxSteps := 2000000) -implicitDefEqProofs only [zz, evop, ev, ofVal, tget, tput, ok, V.isUndef, initT, Ch.on, told, xport, resOf, resV, resVs, ↓reduceIte, reduceCtorEq, Nat.reduceLT]
  unfold tr
  cases b <;> simp
theorem c_Wrap (n : Int) : CSpec Tryz.prog 233 [.int .i64 n] (.int .i64 (w32 n)) := by
  refine CSpec.of_awp envOf_ok hmix Tryz.func233 rfl (fun args w => Tryz.call233 args w) (by simp [Tryz.f233]) ?_
  simp only [Tryz.f233]
  simp (maxSteps := 2000000) -implicitDefEqProofs only [zz, zE, evop, ev, ofVal, tget, tput, ok, V.isUndef, initT, Ch.on, xport, resOf, resV, resVs, ↓reduceIte, reduceCtorEq, Nat.reduceLT]
  have h : IntKind.i64.wrap (IntKind.i32.wrap (IntKind.u32.wrap (IntKind.u64.wrap n))) = w32 n := by
    rw [IntKind.wrap_i64, IntKind.wrap_i32, IntKind.wrap_u32, IntKind.wrap_u64]
    unfold w32; omega
  rw [h]
theorem c_r01_Wrap (n : Int) : CSpec Tryz.prog 179 [.int .i64 n] (.int .i64 (w32 n)) := by
  refine CSpec.of_awp envOf_ok hmix Tryz.func179 rfl (fun args w => Tryz.call179 args w) (by simp [Tryz.f179]) ?_
  simp only [Tryz.f179]
  simp (maxSteps := 2000000) -implicitDefEqProofs only [zz, evop, ev, ofVal, tget, tput, ok, V.isUndef, intBin, initT, Ch.on, told, xport, resOf, resV, resVs, ↓reduceIte, reduceCtorEq, Nat.reduceLT, Nat.reduceEqDiff, Int.reduceNeg, nilTest]
  refine ⟨by decide, ?_⟩
  obtain ⟨r, hr⟩ : ∃ r, r = n.tmod 4294967296 := ⟨_, rfl⟩
  have h2 : (0 ≤ n ∧ r = n % 4294967296) ∨ (n < 0 ∧ r = - ((-n) % 4294967296)) := by
    by_cases h : 0 ≤ n
    · exact .inl ⟨h, by rw [hr, Int.tmod_eq_emod_of_nonneg h]⟩
    · refine .inr ⟨by omega, ?_⟩
      have : n.tmod 4294967296 = -((-n).tmod 4294967296) := by rw [Int.neg_tmod]; omega
      rw [hr, this, Int.tmod_eq_emod_of_nonneg (by omega)]
  rw [← hr]
  unfold w32
  by_cases c1 : r < -2147483648
  · have e1 : IntKind.i64.wrap (r + 4294967296) = r + 4294967296 := by rw [wrap_in (by omega)]
    by_cases c2 : r + 4294967296 > 2147483647
    · have e2 : IntKind.i64.wrap (r + 4294967296 - 4294967296) = r := by rw [wrap_in (by omega)]; omega
      simp (maxSteps := 2000000) -implicitDefEqProofs only [↓reduceIte, Int.reduceNeg, c1, e1, c2, e2]
      congr 2; omega
    · simp (maxSteps := 2000000) -implicitDefEqProofs only [↓reduceIte, Int.reduceNeg, c1, e1, c2]
      congr 2; omega
  · by_cases c2 : r > 2147483647
    · have e2 : IntKind.i64.wrap (r - 4294967296) = r - 4294967296 := by rw [wrap_in (by omega)]
      simp (maxSteps := 2000000) -implicitDefEqProofs only [↓reduceIte, Int.reduceNeg, c1, c2, e2]
      congr 2; omega
    · simp (maxSteps := 2000000) -implicitDefEqProofs only [↓reduceIte, Int.reduceNeg, c1, c2]
      congr 2; omega
theorem wrap64_w32 (n : Int) : w32 (IntKind.i64.wrap n) = w32 n := by rw [IntKind.wrap_i64]; unfold w32; omega
theorem c_Add (a b : Int) : CSpec Tryz.prog 234 [.int .i64 a, .int .i64 b] (.int .i64 (w32 (w32 a + w32 b))) := by
  refine CSpec.of_awp envOf_ok hmix Tryz.func234 rfl (fun args w => Tryz.call234 args w) (by simp [Tryz.f234]) ?_
  simp only [Tryz.f234]
  simp (maxSteps := 2000000) -implicitDefEqProofs only [zz, evop, ev, ofVal, tget, tput, ok, V.isUndef, initT, Ch.on, calleeOf, withArgs, ↓reduceIte, reduceCtorEq, Nat.reduceLT]
  refine acall_flat (by first | rfl | (simp only [xports, xport, hget]; rfl)) (c_Wrap a) rfl ?_
  try simp (maxSteps := 2000000) -implicitDefEqProofs only [zz, evop, ev, tget, tput, ok, V.isUndef, Ch.on, calleeOf, withArgs, ↓reduceIte, reduceCtorEq, Nat.reduceLT, Nat.reduceEqDiff]
  refine acall_flat (by first | rfl | (simp only [xports, xport, hget]; rfl)) (c_Wrap b) rfl ?_
  try simp (maxSteps := 2000000) -implicitDefEqProofs only [zz, evop, ev, tget, tput, intBin, Ch.on, calleeOf, withArgs, ↓reduceIte, Nat.reduceLT, Nat.reduceEqDiff, nilTest]
  refine acall_flat (by first | rfl | (simp only [xports, xport, hget]; rfl)) (c_Wrap _) rfl ?_
  try simp (maxSteps := 2000000) -implicitDefEqProofs only [zz, evop, ev, tget, tput, ok, V.isUndef, Ch.on, xport, resOf, resV, resVs, ↓reduceIte, Nat.reduceLT]
  rw [wrap64_w32]
theorem c_Sub (a b : Int) : CSpec Tryz.prog 235 [.int .i64 a, .int .i64 b] (.int .i64 (w32 (w32 a - w32 b))) := by
  refine CSpec.of_awp envOf_ok hmix Tryz.func235 rfl (fun args w => Tryz.call235 args w) (by simp [Tryz.f235]) ?_
  simp only [Tryz.f235]
  simp (maxSteps := 2000000) -implicitDefEqProofs only [zz, evop, ev, ofVal, tget, tput, ok, V.isUndef, initT, Ch.on, calleeOf, withArgs, ↓reduceIte, reduceCtorEq, Nat.reduceLT]
  refine acall_flat (by first | rfl | (simp only [xports, xport, hget]; rfl)) (c_Wrap a) rfl ?_
  try simp (maxSteps := 2000000) -implicitDefEqProofs only [zz, evop, ev, tget, tput, ok, V.isUndef, Ch.on, calleeOf, withArgs, ↓reduceIte, reduceCtorEq, Nat.reduceLT, Nat.reduceEqDiff]
  refine acall_flat (by first | rfl | (simp only [xports, xport, hget]; rfl)) (c_Wrap b) rfl ?_
  try simp (maxSteps := 2000000) -implicitDefEqProofs only [zz, evop, ev, tget, tput, intBin, Ch.on, calleeOf, withArgs, ↓reduceIte, Nat.reduceLT, Nat.reduceEqDiff, nilTest]
  refine acall_flat (by first | rfl | (simp only [xports, xport, hget]; rfl)) (c_Wrap _) rfl ?_
  try simp (maxSteps := 2000000) -implicitDefEqProofs only [zz, evop, ev, tget, tput, ok, V.isUndef, Ch.on, xport, resOf, resV, resVs, ↓reduceIte, Nat.reduceLT]
  rw [wrap64_w32]
theorem c_Mul (a b : Int) : CSpec Tryz.prog 236 [.int .i64 a, .int .i64 b] (.int .i64 (w32 (w32 a * w32 b))) := by
  refine CSpec.of_awp envOf_ok hmix Tryz.func236 rfl (fun args w => Tryz.call236 args w) (by simp [Tryz.f236]) ?_
  simp only [Tryz.f236]
  simp (maxSteps := 2000000) -implicitDefEqProofs only [zz, evop, ev, ofVal, tget, tput, ok, V.isUndef, initT, Ch.on, calleeOf, withArgs, ↓reduceIte, reduceCtorEq, Nat.reduceLT]
  refine acall_flat (by first | rfl | (simp only [xports, xport, hget]; rfl)) (c_Wrap a) rfl ?_
  try simp (maxSteps := 2000000) -implicitDefEqProofs only [zz, evop, ev, tget, tput, ok, V.isUndef, Ch.on, calleeOf, withArgs, ↓reduceIte, reduceCtorEq, Nat.reduceLT, Nat.reduceEqDiff]
  refine acall_flat (by first | rfl | (simp only [xports, xport, hget]; rfl)) (c_Wrap b) rfl ?_
  try simp (maxSteps := 2000000) -implicitDefEqProofs only [zz, evop, ev, tget, tput, intBin, Ch.on, calleeOf, withArgs, ↓reduceIte, Nat.reduceLT, Nat.reduceEqDiff, nilTest]
  refine acall_flat (by first | rfl | (simp only [xports, xport, hget]; rfl)) (c_Wrap _) rfl ?_
  try simp (maxSteps := 2000000) -implicitDefEqProofs only [zz, evop, ev, tget, tput, ok, V.isUndef, Ch.on, xport, resOf, resV, resVs, ↓reduceIte, Nat.reduceLT]
  rw [wrap64_w32]
theorem c_r01_Mul (a b : Int) : CSpec Tryz.prog 218 [.int .i64 a, .int .i64 b] (.int .i64 (w32 (w32 a * w32 b))) := by
  refine CSpec.of_awp envOf_ok hmix Tryz.func218 rfl (fun args w => Tryz.call218 args w) (by simp [Tryz.f218]) ?_
  simp only [Tryz.f218]
  simp (maxSteps := 2000000) -implicitDefEqProofs only [zz, evop, ev, ofVal, tget, tput, ok, V.isUndef, initT, Ch.on, calleeOf, withArgs, ↓reduceIte, reduceCtorEq, Nat.reduceLT]
  refine acall_flat (by first | rfl | (simp only [xports, xport, hget]; rfl)) (c_r01_Wrap a) rfl ?_
  try simp (maxSteps := 2000000) -implicitDefEqProofs only [zz, evop, ev, tget, tput, ok, V.isUndef, Ch.on, calleeOf, withArgs, ↓reduceIte, reduceCtorEq, Nat.reduceLT, Nat.reduceEqDiff]
  refine acall_flat (by first | rfl | (simp only [xports, xport, hget]; rfl)) (c_r01_Wrap b) rfl ?_
  try simp (maxSteps := 2000000) -implicitDefEqProofs only [zz, evop, ev, ofVal, tget, tput, ok, V.isUndef, intBin, Ch.on, calleeOf, withArgs, ↓reduceIte, Nat.reduceLT, Nat.reduceEqDiff, nilTest]
  have hx := w32_rng a
  have hy := w32_rng b
  generalize w32 a = x at hx ⊢
  generalize w32 b = y at hy ⊢
  obtain ⟨lo, hlo⟩ : ∃ lo, lo = y.tmod 65536 := ⟨_, rfl⟩
  obtain ⟨hi, hhi⟩ : ∃ hi, hi = (y - lo).tdiv 65536 := ⟨_, rfl⟩
  have h1 : y = lo + 65536 * y.tdiv 65536 := by rw [hlo]; have := Int.tmod_add_mul_tdiv y 65536; omega
  have h3 : hi = y.tdiv 65536 := by
    have e : y - lo = 65536 * y.tdiv 65536 := by omega
    rw [hhi, e, Int.mul_tdiv_cancel_left _ (by decide)]
  have h4 : -65536 < lo ∧ lo < 65536 := by
    rw [hlo]
    have a1 := Int.tmod_lt_of_pos y (show (0 : Int) < 65536 by decide)
    have a2 := Int.lt_tmod_of_pos y (show (0 : Int) < 65536 by decide)
    omega
  rw [← hlo]
  have e1 : IntKind.i64.wrap (y - lo) = y - lo := by rw [wrap_in (by omega)]
  rw [e1, ← hhi]
  have e2 : IntKind.i64.wrap hi = hi := by rw [wrap_in (by omega)]
  rw [e2]
  refine ⟨by decide, by decide, ?_⟩
  have b1 := mul_bd (A := 2147483648) (B := 65536) (x := x) (y := lo) (by decide) (by decide) (by omega) (by omega)
  have b2 := mul_bd (A := 2147483648) (B := 65536) (x := x) (y := hi) (by decide) (by decide) (by omega) (by omega)
  have hxy : x * y = x * lo + 65536 * (x * hi) := by
    have : y = lo + 65536 * hi := by rw [h3]; exact h1
    rw [this, Int.mul_add, ← Int.mul_assoc, Int.mul_comm x 65536, Int.mul_assoc]
  rw [hxy]
  generalize x * lo = p at b1 ⊢
  generalize x * hi = q at b2 ⊢
  have w1 : IntKind.i64.wrap p = p := by rw [wrap_in (by omega)]
  have w2 : IntKind.i64.wrap q = q := by rw [wrap_in (by omega)]
  have hq := w32_rng q
  have w3 : IntKind.i64.wrap (w32 q * 65536) = w32 q * 65536 := by rw [wrap_in (by omega)]
  have w4 : IntKind.i64.wrap (p + w32 q * 65536) = p + w32 q * 65536 := by rw [wrap_in (by omega)]
  rw [w2]
  refine acall_flat (by first | rfl | (simp only [xports, xport, hget]; rfl)) (c_r01_Wrap q) rfl ?_
  try simp (maxSteps := 2000000) -implicitDefEqProofs only [zz, evop, ev, ofVal, tget, tput, intBin, Ch.on, calleeOf, withArgs, ↓reduceIte, Nat.reduceLT, Nat.reduceEqDiff, nilTest]
  simp (maxSteps := 2000000) -implicitDefEqProofs only [w1, w3, w4]
  refine acall_flat (by first | rfl | (simp only [xports, xport, hget]; rfl)) (c_r01_Wrap _) rfl ?_
  try simp (maxSteps := 2000000) -implicitDefEqProofs only [zz, evop, ev, tget, tput, ok, V.isUndef, Ch.on, xport, resOf, resV, resVs, ↓reduceIte, Nat.reduceLT]
  congr 2
  unfold w32
  omega
end Go.Proofs.YtjhfpabldidlgaaGreat.AM

/- The log of writes: the document's, and Put, Mark, Keep, Back. -/
set_option linter.all false
set_option maxRecDepth 100000
set_option maxHeartbeats 4000000
namespace Go.Proofs.YtjhfpabldidlgaaGreat.AM
open Go Go.RowKit

/-- The heap of a log's variable. -/
def bLg (l : Lg) : Blk := .box false [.d (.vec (l.1.map dW)), .d (.vec (l.2.map dI))]

def lowOf (l : List Int) (i : Nat) : Int := if i = 0 then 0 else (l[i - 1]?).getD 0

theorem c_r06_Right (l : Lg) (h1 : l.1.length ≤ 1000000) (h2 : l.2.length ≤ 1000000) : CSpec Tryz.prog 125 [dLg l] (.bool (logR l)) := by
  refine CSpec.of_awp envOf_ok hmix Tryz.func125 rfl (fun args w => Tryz.call125 args w) (by simp [Tryz.f125]) ?_
  simp only [Tryz.f125]
  simp (maxSteps := 2000000) -implicitDefEqProofs only [zz, zE, evop, ev, tget, V.isUndef, initT, V.cells, ↓reduceIte]
  unfold dLg
  simp (maxSteps := 2000000) -implicitDefEqProofs only [zz, evop, ev, ofVal, tput, ok, V.isUndef, Ch.on, hput, ↓reduceIte, Nat.reduceLT]
  refine wloop_count l.1.length (fun i => [(3, .d (.int .i64 i)), (1, .ptr 0 0 0)]) (fun _ => [bLg l]) (fun i => ∀ j < i, ∀ x, l.1[j]? = some x → wrongW x = false) (fun j hj => by omega) (Weak.sub (by simp [tget])) (fun i hi hI => ?_) (fun hI => ?_)
  · have hx : l.1[i]? = some l.1[i] := List.getElem?_eq_getElem hi
    have h' : ((i : Int) < (l.1.length : Int)) := by omega
    simp (maxSteps := 2000000) -implicitDefEqProofs only [zz, zE, evop, ev, tget, tput, ok, V.isUndef, intBin, Ch.on, calleeOf, withArgs, told, hget, D.cells, loadD, structAt, sliceOf, Blk.width, lenOf, ↓reduceIte, reduceCtorEq, Nat.reduceLT, Nat.reduceEqDiff, Nat.reduceAdd, Nat.reduceLeDiff, nilTest, dW, h', bLg, List.getElem?_map, hx, Option.map_some, Int.natCast_nonneg]
    refine acall_flat (by first | rfl | (simp only [xports, xport, hget]; rfl)) (c_r06_one l.1[i]) rfl ?_
    try simp (maxSteps := 2000000) -implicitDefEqProofs only [zz, evop, ev, ofVal, tget, tput, ok, V.isUndef, intBin, Ch.on, told, xport, resOf, resV, resVs, ↓reduceIte, Nat.reduceLT, Nat.reduceEqDiff, nilTest]
    have hw : IntKind.i64.wrap ((i : Int) + 1) = ((i + 1 : Nat) : Int) := by rw [wrap_in (by omega)]; omega
    split
    · rename_i h
      have : l.1.any wrongW = true := List.any_eq_true.2 ⟨_, List.getElem_mem hi, by simpa using h⟩
      simp [logR, this]
    · rename_i h
      refine ⟨fun j hj x hxj => ?_, Weak.sub (by simp [tget, hw])⟩
      by_cases e : j = i
      · subst e; rw [hx] at hxj; cases hxj; simpa using h
      · exact hI j (by omega) x hxj
  · have h' : ¬ ((l.1.length : Int) < (l.1.length : Int)) := by omega
    have hany : l.1.any wrongW = false := by
      rw [List.any_eq_false]
      intro x hx
      obtain ⟨j, hj, rfl⟩ := List.getElem_of_mem hx
      simpa using hI j hj _ (List.getElem?_eq_getElem hj)
    simp (maxSteps := 2000000) -implicitDefEqProofs only [zz, zE, evop, ev, ofVal, tget, tput, ok, V.isUndef, intBin, Ch.on, told, hget, structAt, sliceOf, Blk.width, lenOf, ↓reduceIte, reduceCtorEq, Nat.reduceLT, Nat.reduceEqDiff, Nat.reduceAdd, nilTest, h', bLg]
    refine wloop_count l.2.length (fun i => [(6, .d (.int .i64 i)), (5, .d (.int .i64 (lowOf l.2 i))), (1, .ptr 0 0 0)]) (fun _ => [bLg l]) (fun i => ∀ j < i, ∀ x, l.2[j]? = some x → lowOf l.2 j ≤ x ∧ offI l.1.length x = false ∧ 0 ≤ x) (fun j hj => by omega) (Weak.sub (by simp [tget, lowOf])) (fun i hi hJ => ?_) (fun hJ => ?_)
    · have hx : l.2[i]? = some l.2[i] := List.getElem?_eq_getElem hi
      have h' : ((i : Int) < (l.2.length : Int)) := by omega
      have hw : IntKind.i64.wrap ((i : Int) + 1) = ((i + 1 : Nat) : Int) := by rw [wrap_in (by omega)]; omega
      simp (maxSteps := 2000000) -implicitDefEqProofs only [zz, zE, evop, ev, tget, tput, ok, V.isUndef, intBin, Ch.on, told, hget, structAt, sliceOf, Blk.width, lenOf, ↓reduceIte, reduceCtorEq, Nat.reduceLT, Nat.reduceEqDiff, Nat.reduceAdd, nilTest, h', bLg]
      refine wdraw_plan [⟨[], false, [31, 34], [], false⟩, ⟨[0], false, [31, 34], [], false⟩, ⟨[], false, [29, 30, 34], [0, 1], false⟩, ⟨[0, 1, 2], false, [34], [], false⟩, ⟨[0, 1, 2, 3], false, [34], [], false⟩, ⟨[], false, [29, 30, 31, 32, 33], [0, 1, 2, 3, 4], false⟩, ⟨[0, 1, 2, 3, 4, 5], true, [], [], false⟩, ⟨[0, 1, 2, 3, 4, 5, 6], true, [], [], false⟩, ⟨[0, 1, 2, 3, 4, 5, 6, 7], false, [39, 42, 43, 44], [], false⟩, ⟨[0, 1, 2, 3, 4, 5, 6, 7, 8], false, [39, 42, 43, 44], [], false⟩, ⟨[0, 1, 2, 3, 4, 5, 6, 7], false, [37, 38, 42, 43, 44], [8, 9], false⟩, ⟨[0, 1, 2, 3, 4, 5, 6, 7, 8, 9, 10], false, [42, 43, 44], [], false⟩, ⟨[0, 1, 2, 3, 4, 5, 6, 7, 8, 9, 10, 11], false, [42, 43, 44], [], false⟩, ⟨[0, 1, 2, 3, 4, 5, 6, 7], false, [37, 38, 39, 40, 41], [8, 9, 10, 11, 12], false⟩, ⟨[0, 1, 2, 3, 4, 5, 6, 7, 13], false, [37, 38, 39, 40, 41], [8, 9, 10, 11, 12], false⟩, ⟨[0, 1, 2, 3, 4, 5, 6, 7, 13, 14], false, [37, 38, 39, 40, 41], [8, 9, 10, 11, 12], false⟩, ⟨[0, 1, 2, 3, 4, 5, 6, 7, 8, 9, 10, 11, 12, 13, 14, 15], false, [], [], false⟩, ⟨[0, 1, 2, 3, 4, 5, 6, 7, 8, 9, 10, 11, 12, 13, 14, 15, 16], true, [], [], false⟩] (by decide) ?_
      simp (maxSteps := 2000000) -implicitDefEqProofs only [zz, zE, evop, ev, ofVal, tget, tput, ok, V.isUndef, intBin, guardOf, Ch.on, told, xport, hget, hput, V.cells, D.cells, V.isAgg, loadD, structAt, sliceOf, Blk.width, lenOf, resOf, resV, resVs, ↓reduceIte, reduceCtorEq, Nat.reduceLT, Nat.reduceEqDiff, Nat.reduceAdd, Nat.reduceSub, Nat.reduceLeDiff, nilTest, dI, List.getElem?_map, hx, Option.map_some, Int.natCast_nonneg]
      have hlow : lowOf l.2 (i + 1) = l.2[i] := by simp [lowOf, hx]
      have hlow0 : ∀ (j : Nat) (x : Int), l.2[j]? = some x → logR l = true → lowOf l.2 j ≤ x := fun j x hj hr => by
        simp only [logR, Bool.and_eq_true, Bool.not_eq_true', List.any_eq_false] at hr
        obtain ⟨⟨_, r2⟩, r3⟩ := hr
        unfold lowOf
        split
        · have := r2 x (List.mem_of_getElem? hj)
          simp [offI] at this; omega
        · rename_i h0
          obtain ⟨k, rfl⟩ : ∃ k, j = k + 1 := ⟨j - 1, by omega⟩
          have hk : k < l.2.length := by have := (List.getElem?_eq_some_iff.1 hj).1; omega
          simp only [Nat.add_sub_cancel, List.getElem?_eq_getElem hk, Option.getD_some]
          exact (srt_iff _).1 r3 k _ _ (List.getElem?_eq_getElem hk) hj
      have hoff : ∀ x, x ∈ l.2 → logR l = true → offI l.1.length x = false := fun x hx hr => by
        simp only [logR, Bool.and_eq_true, Bool.not_eq_true', List.any_eq_false] at hr
        simpa using hr.1.2 x hx
      split
      · rename_i hlt
        split
        · rename_i hgt
          have : logR l = false := by
            rw [Bool.eq_false_iff]
            intro hr
            have := hoff _ (List.getElem_mem hi) hr
            simp [offI] at this; omega
          rw [this]
        · rename_i hgt
          refine ⟨fun j hj x hxj => ?_, Weak.trims 1 rfl (by simp [tget, hw, hlow, V.lower]) (by simp [Blk.lower, lowerL, V.lower])⟩
          by_cases e : j = i
          · subst e; rw [hx] at hxj; cases hxj
            have h0 : 0 ≤ lowOf l.2 j := by
              unfold lowOf
              split
              · exact Int.le_refl _
              · rename_i h0
                have hk : j - 1 < l.2.length := by omega
                simp only [List.getElem?_eq_getElem hk, Option.getD_some]
                exact (hJ (j - 1) (by omega) _ (List.getElem?_eq_getElem hk)).2.2
            simp at hlt
            refine ⟨hlt, ?_, by omega⟩
            simp [offI]; omega
          · exact hJ j (by omega) x hxj
      · rename_i hlt
        have : logR l = false := by
          rw [Bool.eq_false_iff]
          intro hr
          have := hlow0 i _ hx hr
          simp at hlt; omega
        rw [this]
    · have h' : ¬ ((l.2.length : Int) < (l.2.length : Int)) := by omega
      simp (maxSteps := 2000000) -implicitDefEqProofs only [zz, zE, evop, ev, ofVal, tget, tput, ok, V.isUndef, intBin, guardOf, Ch.on, told, xport, hget, structAt, sliceOf, Blk.width, lenOf, resOf, resV, resVs, ↓reduceIte, reduceCtorEq, Nat.reduceLT, Nat.reduceEqDiff, Nat.reduceAdd, nilTest, h', bLg]
      have hoff : l.2.any (offI l.1.length) = false := by
        rw [List.any_eq_false]
        intro x hx
        obtain ⟨j, hj, rfl⟩ := List.getElem_of_mem hx
        have := (hJ j hj _ (List.getElem?_eq_getElem hj)).2.1
        simpa using this
      have hs : srt l.2 = true := (srt_iff _).2 (fun j x y hx hy => by
        have hj := (List.getElem?_eq_some_iff.1 hy).1
        have := (hJ (j + 1) hj y hy).1
        simpa [lowOf, hx] using this)
      unfold logR
      rw [hany, hoff, hs]
      (repeat' split) <;> (first | rfl | (simp_all [IntKind.wrap_i64]; done) | (simp [IntKind.wrap_i64] at * <;> omega) | (simp_all [IntKind.wrap_i64] <;> omega) | (congr 2; rw [Bool.eq_iff_iff]; simp_all; omega) | grind)

end Go.Proofs.YtjhfpabldidlgaaGreat.AM

/- What is its caller's own. -/
set_option linter.all false
set_option maxRecDepth 100000
set_option maxHeartbeats 4000000
namespace Go.Proofs.YtjhfpabldidlgaaGreat.AM
open Go Go.RowKit

theorem o_Clone_W (els : List D) (h1 : els.length * 16 ≤ 140737488355328) (h2 : ∀ e ∈ els, okEl 2 e = true) : FSpec Tryz.prog 128 [.vec els] (.own 0 0 els.length) [.dat false 2 els] := by
  refine FSpec.of_awp envOf_ok hmix Tryz.func128 rfl (fun args w => Tryz.call128 args w) (by simp [Tryz.f128]) ?_
  simp only [Tryz.f128]
  simp (maxSteps := 2000000) -implicitDefEqProofs only [zz, zE, evop, ev, ofVal, tget, tput, ok, V.isUndef, initT, Ch.on, told, hget, hput, V.cells, V.isAgg, V.clo, clos, sliceOf, partsD, elems, resOf, resV, resVs, ↓reduceIte, reduceCtorEq, Nat.reduceLT, Nat.reduceEqDiff, Nat.reduceMul, Nat.reduceLeDiff, nilTest]
  refine ⟨fun h => ?_, ⟨h1, h2⟩, ?_⟩
  · subst h
    refine Weak.pick [7] (by simp) (by simp) rfl (fun q hq => ?_) (fun i hi => ?_)
    · obtain rfl : q = _ := by simpa using hq
      exact .nils 0 2 rfl
    · obtain rfl : i = 0 := by simpa using hi
      exact .virt 2 rfl rfl
  · refine Weak.pick [1] (by simp) (by simp) rfl (fun q hq => ?_) (fun i hi => ?_)
    · obtain rfl : q = _ := by simpa using hq
      exact .same _
    · obtain rfl : i = 0 := by simpa using hi
      exact .dat false 2 els rfl rfl

theorem o_Clone_int (els : List D) (h1 : els.length * 8 ≤ 140737488355328) (h2 : ∀ e ∈ els, okEl 1 e = true) : FSpec Tryz.prog 171 [.vec els] (.own 0 0 els.length) [.dat false 1 els] := by
  refine FSpec.of_awp envOf_ok hmix Tryz.func171 rfl (fun args w => Tryz.call171 args w) (by simp [Tryz.f171]) ?_
  simp only [Tryz.f171]
  simp (maxSteps := 2000000) -implicitDefEqProofs only [zz, zE, evop, ev, ofVal, tget, tput, ok, V.isUndef, initT, Ch.on, told, hget, hput, V.cells, V.isAgg, V.clo, clos, sliceOf, partsD, elems, resOf, resV, resVs, ↓reduceIte, reduceCtorEq, Nat.reduceLT, Nat.reduceEqDiff, Nat.reduceMul, Nat.reduceLeDiff, nilTest]
  refine ⟨fun h => ?_, ⟨h1, h2⟩, ?_⟩
  · subst h
    refine Weak.pick [7] (by simp) (by simp) rfl (fun q hq => ?_) (fun i hi => ?_)
    · obtain rfl : q = _ := by simpa using hq
      exact .nils 0 1 rfl
    · obtain rfl : i = 0 := by simpa using hi
      exact .virt 1 rfl rfl
  · refine Weak.pick [1] (by simp) (by simp) rfl (fun q hq => ?_) (fun i hi => ?_)
    · obtain rfl : q = _ := by simpa using hq
      exact .same _
    · obtain rfl : i = 0 := by simpa using hi
      exact .dat false 1 els rfl rfl

theorem okEl_W (l : List (Int × Int)) : ∀ e ∈ l.map dW, okEl 2 e = true := by
  intro e he
  obtain ⟨w, _, rfl⟩ := List.mem_map.1 he
  rfl
theorem okEl_I (l : List Int) : ∀ e ∈ l.map dI, okEl 1 e = true := by
  intro e he
  obtain ⟨w, _, rfl⟩ := List.mem_map.1 he
  rfl

def rLg (l : Lg) : V := .agg [.own 0 0 l.1.length, .own 1 0 l.2.length]
def hLg (l : Lg) : Heap := [.dat false 2 (l.1.map dW), .dat false 1 (l.2.map dI)]

theorem o_own (l : Lg) (h1 : l.1.length ≤ 1000000) (h2 : l.2.length ≤ 1000000) : FSpec Tryz.prog 164 [dLg l] (rLg l) (hLg l) := by
  refine FSpec.of_awp envOf_ok hmix Tryz.func164 rfl (fun args w => Tryz.call164 args w) (by simp [Tryz.f164]) ?_
  simp only [Tryz.f164]
  simp (maxSteps := 2000000) -implicitDefEqProofs only [zz, zE, evop, ev, tget, V.isUndef, initT, V.cells, ↓reduceIte]
  unfold dLg
  simp (maxSteps := 2000000) -implicitDefEqProofs only [zz, zE, evop, tput, Ch.on, hput, ↓reduceIte, Nat.reduceLT]
  refine wdraw_plan [⟨[], false, [6, 7], [], false⟩, ⟨[0], false, [6, 7], [], false⟩, ⟨[0, 1], false, [6, 7], [], false⟩, ⟨[], false, [3, 4, 5], [0, 1, 2], false⟩, ⟨[3], false, [3, 4, 5], [0, 1, 2], false⟩, ⟨[0, 1, 2, 3, 4], true, [], [], false⟩, ⟨[0, 1, 2, 3, 4, 5], true, [], [], false⟩, ⟨[0, 1, 2, 3, 4, 5, 6], true, [], [], false⟩] (by decide) ?_
  simp (maxSteps := 2000000) -implicitDefEqProofs only [zz, zE, evop, ev, ofVal, tget, tput, ok, V.isUndef, calleeOf, withArgs, hget, hput, D.cells, loadD, structAt, Blk.width, ↓reduceIte, reduceCtorEq, Nat.reduceLT, Nat.reduceEqDiff, Nat.reduceAdd, Nat.reduceLeDiff]
  refine dcall_own (by first | rfl | (simp only [xports, xport, hget]; rfl)) (o_Clone_W (l.1.map dW) (by simp; omega) (okEl_W _)) rfl ?_
  try simp (maxSteps := 2000000) -implicitDefEqProofs only [zz, V.ren]
  refine acall_own (by first | rfl | (simp only [xports, xport, hget]; rfl)) (o_Clone_int (l.2.map dI) (by simp; omega) (okEl_I _)) ?_
  try simp (maxSteps := 2000000) -implicitDefEqProofs only [zz, zE, evop, ev, tget, tput, ok, V.isUndef, Ch.on, tids, tidss, hget, hput, freeze, V.cells, V.one, partsV, splice, resOf, resV, resVs, ↓reduceIte, Nat.reduceLT, Nat.reduceEqDiff, Nat.reduceAdd, Nat.reduceLeDiff, shiftH, Blk.ren, V.ren]
  refine Weak.pick [4, 7] (by decide) (by simp) rfl (fun q hq => ?_) (fun i hi => ?_)
  · obtain rfl : q = _ := by simpa using hq
    exact .same _
  · match i, hi with
    | 0, _ => exact .dat _ _ _ rfl rfl
    | 1, _ => exact .dat _ _ _ rfl rfl
    | i + 2, hi => exact absurd hi (by simp [hLg])
end Go.Proofs.YtjhfpabldidlgaaGreat.AM

/- Cells: is it a heap; is a cell there. -/
set_option linter.all false
set_option maxRecDepth 100000
set_option maxHeartbeats 4000000
namespace Go.Proofs.YtjhfpabldidlgaaGreat.AM
open Go Go.RowKit

def dC (c : Bool × Int) : D := .agg [.bool c.1, .int .i64 c.2]
def wrongC (c : Bool × Int) : Bool := !spanR c.2 || (!c.1 && (c.2 != 0))
def heapR (h : List (Bool × Int)) : Bool := decide (1 ≤ h.length) && decide (h.length ≤ 64) && !(h.any wrongC)
def thereB (h : List (Bool × Int)) (c : Int) : Bool := decide (0 ≤ c) && decide (c < (h.length : Int)) && ((h[c.toNat]?).getD (false, 0)).1

theorem c_IndexFunc_C (ns : List (Bool × Int)) (f : Nat) (cap : List D) (p : Bool × Int → Bool) (hl : ns.length ≤ 1000000) (hcap : cap.length ≤ 8) (hp : ∀ n ∈ ns, CSpec Tryz.prog f (dC n :: cap) (.bool (p n))) : CSpec Tryz.prog 166 [.vec (ns.map dC), .func (f, 0) cap] (.int .i64 (idxOf p ns)) := by
  refine CSpec.of_awp envOf_ok hmix Tryz.func166 rfl (fun args w => Tryz.call166 args w) (by simp [Tryz.f166]) ?_
  simp only [Tryz.f166]
  simp (maxSteps := 2000000) -implicitDefEqProofs only [zz, zE, evop, ev, ofVal, tget, tput, ok, V.isUndef, initT, Ch.on, sliceOf, lenOf, ↓reduceIte, reduceCtorEq, Nat.reduceLT, Int.reduceNeg]
  refine wloop_ind (σ := Nat) (fun i => ns.length - i) (fun i => [(8, .d (.int .i64 i)), (7, .d (.int .i64 ns.length)), (4, .d (.int .i64 0)), (0, .d (.vec (ns.map dC))), (1, .d (.func (f, 0) cap))]) (fun _ => []) (fun i => i ≤ ns.length ∧ ∀ j < i, ∀ x, ns[j]? = some x → p x = false) 0 ⟨Nat.zero_le _, fun j hj => by omega⟩ (Weak.sub (by simp [tget])) ?_
  intro i ⟨hi, hb⟩
  rcases Nat.lt_or_ge i ns.length with h | h
  · have hx : ns[i]? = some ns[i] := List.getElem?_eq_getElem h
    have h' : ((i : Int) < (ns.length : Int)) := by omega
    simp (maxSteps := 2000000) -implicitDefEqProofs only [zz, zE, evop, ev, tget, tput, ok, V.isUndef, intBin, Ch.on, calleeOf, withArgs, told, D.cells, loadD, ↓reduceIte, reduceCtorEq, Nat.reduceLT, Nat.reduceEqDiff, Nat.reduceAdd, Nat.reduceLeDiff, Int.reduceNeg, nilTest, dC, h', List.getElem?_map, hx, Option.map_some, Int.natCast_nonneg]
    refine acall_flat (ds := dC ns[i] :: cap) (by simp only [xports, xport, xports_ds cap 39 (by omega), dC]) (hp _ (List.getElem_mem h)) rfl ?_
    simp (maxSteps := 2000000) -implicitDefEqProofs only [zz, evop, ev, ofVal, tget, tput, ok, V.isUndef, intBin, Ch.on, told, xport, resOf, resV, resVs, ↓reduceIte, Nat.reduceLT, Nat.reduceEqDiff, Int.reduceNeg, nilTest]
    split
    · rename_i hpx
      simp [idxOf, findIdx_at h hb hpx]
    · rename_i hpx
      refine ⟨i + 1, ⟨h, fun j hj x hxj => ?_⟩, by omega, Weak.sub ?_⟩
      · rcases Nat.lt_or_ge j i with hji | hji
        · exact hb j hji x hxj
        · have : j = i := by omega
          subst this
          rw [hx] at hxj; cases hxj
          simpa using hpx
      · have hw : IntKind.i64.wrap ((i : Int) + 1) = (i : Int) + 1 := by rw [IntKind.wrap_i64]; omega
        simp [tget, hw]
  · have h' : ¬ ((i : Int) < (ns.length : Int)) := by omega
    simp (maxSteps := 2000000) -implicitDefEqProofs only [zz, evop, ev, ofVal, tget, tput, ok, V.isUndef, intBin, Ch.on, told, xport, resOf, resV, resVs, ↓reduceIte, Nat.reduceLT, Nat.reduceEqDiff, Int.reduceNeg, nilTest, h']
    have : ns.findIdx? p = none := by
      rw [List.findIdx?_eq_none_iff]
      intro x hx
      obtain ⟨j, hj, rfl⟩ := List.getElem_of_mem hx
      simpa using hb j (by omega) _ (List.getElem?_eq_getElem hj)
    simp [idxOf, this]

theorem c_ContainsFunc_C (ns : List (Bool × Int)) (f : Nat) (cap : List D) (p : Bool × Int → Bool) (hl : ns.length ≤ 1000000) (hcap : cap.length ≤ 8) (hp : ∀ n ∈ ns, CSpec Tryz.prog f (dC n :: cap) (.bool (p n))) : CSpec Tryz.prog 110 [.vec (ns.map dC), .func (f, 0) cap] (.bool (ns.any p)) := by
  refine CSpec.of_awp envOf_ok hmix Tryz.func110 rfl (fun args w => Tryz.call110 args w) (by simp [Tryz.f110]) ?_
  simp only [Tryz.f110]
  simp (maxSteps := 2000000) -implicitDefEqProofs only [zz, evop, ev, ofVal, tget, tput, ok, V.isUndef, initT, Ch.on, calleeOf, withArgs, ↓reduceIte, reduceCtorEq, Nat.reduceLT, Nat.reduceEqDiff]
  refine acall_flat (by first | rfl | (simp only [xports, xport, hget]; rfl)) (c_IndexFunc_C ns f cap p hl hcap hp) rfl ?_
  try simp (maxSteps := 2000000) -implicitDefEqProofs only [zz, evop, ev, ofVal, tget, tput, ok, V.isUndef, intBin, Ch.on, xport, resOf, resV, resVs, ↓reduceIte, Nat.reduceLT, nilTest]
  rw [idxOf_nonneg]


theorem c_heap_wrong (c : Bool × Int) : CSpec Tryz.prog 111 [dC c] (.bool (wrongC c)) := by
  refine CSpec.of_awp envOf_ok hmix Tryz.func111 rfl (fun args w => Tryz.call111 args w) (by simp [Tryz.f111]) ?_
  simp only [Tryz.f111]
  simp (maxSteps := 2000000) -implicitDefEqProofs only [zz, zE, evop, ev, ofVal, tget, tput, ok, V.isUndef, initT, Ch.on, calleeOf, withArgs, hget, hput, V.cells, structAt, Blk.width, ↓reduceIte, reduceCtorEq, Nat.reduceLT, Nat.reduceEqDiff, Nat.reduceAdd, dC]
  refine acall_flat (by first | rfl | (simp only [xports, xport, hget]; rfl)) (c_span_Right _) rfl ?_
  try simp (maxSteps := 2000000) -implicitDefEqProofs only [zz, zE, evop, ev, ofVal, tget, tput, ok, V.isUndef, intBin, guardOf, Ch.on, xport, hget, structAt, Blk.width, resOf, resV, resVs, ↓reduceIte, reduceCtorEq, Nat.reduceLT, Nat.reduceEqDiff, Nat.reduceAdd, nilTest]
  unfold wrongC
  cases hv : spanR c.2
  · simp (maxSteps := 2000000) -implicitDefEqProofs only [zz, ↓reduceIte]
    simp
  · simp (maxSteps := 2000000) -implicitDefEqProofs only [zz, ↓reduceIte]
    cases hc : c.1
    · simp (maxSteps := 2000000) -implicitDefEqProofs only [zz, ↓reduceIte]
      simp
    · simp (maxSteps := 2000000) -implicitDefEqProofs only [zz, ↓reduceIte]
      simp

theorem c_heap_Right (h : List (Bool × Int)) : CSpec Tryz.prog 62 [.vec (h.map dC)] (.bool (heapR h)) := by
  refine CSpec.of_awp envOf_ok hmix Tryz.func62 rfl (fun args w => Tryz.call62 args w) (by simp [Tryz.f62]) ?_
  simp only [Tryz.f62]
  simp (maxSteps := 2000000) -implicitDefEqProofs only [zz, zE, evop, ev, ofVal, tget, tput, ok, V.isUndef, intBin, guardOf, initT, Ch.on, calleeOf, withArgs, xport, sliceOf, lenOf, resOf, resV, resVs, ↓reduceIte, reduceCtorEq, Nat.reduceLT, Nat.reduceEqDiff, nilTest]
  unfold heapR
  split
  · rename_i h1
    split
    · rename_i h2
      refine acall_flat (by first | rfl | (simp only [xports, xport, hget]; rfl)) (c_ContainsFunc_C h _ [] wrongC (by omega) (by decide) (fun w _ => c_heap_wrong w)) rfl ?_
      try simp (maxSteps := 2000000) -implicitDefEqProofs only [zz, evop, ev, tget, tput, ok, V.isUndef, guardOf, Ch.on, xport, resOf, resV, resVs, ↓reduceIte, Nat.reduceLT, Nat.reduceEqDiff]
      rw [decide_eq_true (by omega : 1 ≤ h.length), decide_eq_true (by omega : h.length ≤ 64)]; simp
    · rename_i h2
      rw [decide_eq_false (by omega : ¬ h.length ≤ 64)]; simp
  · rename_i h1
    rw [decide_eq_false (by omega : ¬ 1 ≤ h.length)]; simp

theorem c_there (h : List (Bool × Int)) (c : Int) (hl : h.length ≤ 1000000) : CSpec Tryz.prog 158 [.vec (h.map dC), .int .i64 c] (.bool (thereB h c)) := by
  refine CSpec.of_awp envOf_ok hmix Tryz.func158 rfl (fun args w => Tryz.call158 args w) (by simp [Tryz.f158]) ?_
  simp only [Tryz.f158]
  simp (maxSteps := 2000000) -implicitDefEqProofs only [zz, zE, evop, ev, ofVal, tget, tput, ok, V.isUndef, intBin, guardOf, initT, Ch.on, xport, D.cells, sliceOf, lenOf, resOf, resV, resVs, ↓reduceIte, reduceCtorEq, Nat.reduceLT, Nat.reduceEqDiff, nilTest]
  unfold thereB
  split
  · rename_i h1
    split
    · rename_i h2
      have hx : h[c.toNat]? = some (h[c.toNat]'(by omega)) := List.getElem?_eq_getElem (by omega)
      simp (maxSteps := 2000000) -implicitDefEqProofs only [zz, zE, evop, ev, tget, tput, ok, V.isUndef, guardOf, Ch.on, xport, D.cells, loadD, structAt, resOf, resV, resVs, ↓reduceIte, reduceCtorEq, Nat.reduceLT, Nat.reduceEqDiff, Nat.reduceAdd, dC, List.getElem?_map, hx, Option.map_some, h1, h2]
      try simp [h1, h2]
    · rename_i h2
      simp [h2]
  · rename_i h1
    simp [h1]

end Go.Proofs.YtjhfpabldidlgaaGreat.AM

/- Terms: one operation. -/
set_option linter.all false
set_option maxRecDepth 100000
set_option maxHeartbeats 4000000
namespace Go.Proofs.YtjhfpabldidlgaaGreat.AM
open Go Go.RowKit

def takesO (o : Int × Int) : Int := if 4 ≤ o.1 ∧ o.1 ≤ 10 then 2 else if o.1 = 11 then 1 else 0
def mayO (o : Int × Int) : Bool := if o.1 = 1 then spanR o.2 else if o.1 = 2 then decide (0 ≤ o.2) && decide (o.2 < 64) else if o.1 = 3 then decide (0 ≤ o.2) && decide (o.2 < 8) else decide (0 < takesO o) && (o.2 == 0)
def twoT (k a b : Int) : Int :=
  if k = 4 then w32 (w32 a + w32 b) else if k = 5 then w32 (w32 a - w32 b) else if k = 6 then w32 (w32 a * w32 b) else if k = 7 then tr (a == b) else if k = 8 then tr (decide (a < b))
  else if k = 9 then tr (a != 0 && b != 0) else tr (a != 0 || b != 0)

theorem c_takes (o : Int × Int) : CSpec Tryz.prog 214 [dW o] (.int .i64 (takesO o)) := by
  refine CSpec.of_awp envOf_ok hmix Tryz.func214 rfl (fun args w => Tryz.call214 args w) (by simp [Tryz.f214]) ?_
  simp only [Tryz.f214]
  simp (maxSteps := 2000000) -implicitDefEqProofs only [zz, zE, evop, ev, ofVal, tget, tput, ok, V.isUndef, intBin, guardOf, initT, Ch.on, told, xport, hget, hput, V.cells, structAt, Blk.width, resOf, resV, resVs, ↓reduceIte, reduceCtorEq, Nat.reduceLT, Nat.reduceEqDiff, Nat.reduceAdd, nilTest, dW]
  by_cases h1 : o.1 ≥ 4
  · by_cases h2 : o.1 ≤ 10
    · simp (maxSteps := 2000000) -implicitDefEqProofs only [↓reduceIte, h1, h2]
      unfold takesO
      rw [if_pos ⟨h1, h2⟩]
    · by_cases h3 : o.1 = 11
      · have e : (o.1 == 11) = true := by simpa using h3
        simp (maxSteps := 2000000) -implicitDefEqProofs only [↓reduceIte, h1, h2, e]
        unfold takesO
        rw [if_neg (by omega), if_pos h3]
      · have e : (o.1 == 11) = false := by simpa using h3
        simp (maxSteps := 2000000) -implicitDefEqProofs only [zz, ↓reduceIte, h1, h2, e]
        unfold takesO
        rw [if_neg (by omega), if_neg h3]
  · have e : (o.1 == 11) = false := by simp; omega
    simp (maxSteps := 2000000) -implicitDefEqProofs only [zz, ↓reduceIte, h1, e]
    unfold takesO
    rw [if_neg (by omega), if_neg (by omega)]

theorem c_may (o : Int × Int) : CSpec Tryz.prog 230 [dW o] (.bool (mayO o)) := by
  refine CSpec.of_awp envOf_ok hmix Tryz.func230 rfl (fun args w => Tryz.call230 args w) (by simp [Tryz.f230]) ?_
  simp only [Tryz.f230]
  simp (maxSteps := 2000000) -implicitDefEqProofs only [zz, zE, evop, ev, ofVal, tget, tput, ok, V.isUndef, intBin, guardOf, initT, Ch.on, calleeOf, withArgs, told, xport, hget, hput, V.cells, structAt, Blk.width, resOf, resV, resVs, ↓reduceIte, reduceCtorEq, Nat.reduceLT, Nat.reduceEqDiff, Nat.reduceAdd, Nat.reduceLeDiff, nilTest, dW]
  unfold mayO
  by_cases h1 : o.1 = 1
  · have e : (o.1 == 1) = true := by simpa using h1
    simp (maxSteps := 2000000) -implicitDefEqProofs only [↓reduceIte, e]
    refine acall_flat (by first | rfl | (simp only [xports, xport, hget]; rfl)) (c_span_Right o.2) rfl ?_
    try simp (maxSteps := 2000000) -implicitDefEqProofs only [zz, evop, ev, tget, tput, ok, V.isUndef, Ch.on, xport, resOf, resV, resVs, ↓reduceIte, Nat.reduceLT]
    rw [if_pos h1]
  have e1 : (o.1 == 1) = false := by simpa using h1
  by_cases h2 : o.1 = 2
  · have e : (o.1 == 2) = true := by simpa using h2
    by_cases g : o.2 ≥ 0
    · rw [if_neg h1, if_pos h2]
      simp (maxSteps := 2000000) -implicitDefEqProofs only [zz, ↓reduceIte, e1, e, g]
    · rw [if_neg h1, if_pos h2]
      simp (maxSteps := 2000000) -implicitDefEqProofs only [zz, ↓reduceIte, e1, e, g]
  have e2 : (o.1 == 2) = false := by simpa using h2
  by_cases h3 : o.1 = 3
  · have e : (o.1 == 3) = true := by simpa using h3
    by_cases g : o.2 ≥ 0
    · rw [if_neg h1, if_neg h2, if_pos h3]
      simp (maxSteps := 2000000) -implicitDefEqProofs only [zz, ↓reduceIte, e1, e2, e, g]
    · rw [if_neg h1, if_neg h2, if_pos h3]
      simp (maxSteps := 2000000) -implicitDefEqProofs only [zz, ↓reduceIte, e1, e2, e, g]
  have e3 : (o.1 == 3) = false := by simpa using h3
  simp (maxSteps := 2000000) -implicitDefEqProofs only [zz, ↓reduceIte, e1, e2, e3, h1, h2, h3]
  refine acall_flat (by first | rfl | (simp only [xports, xport, hget]; rfl)) (c_takes o) rfl ?_
  try simp (maxSteps := 2000000) -implicitDefEqProofs only [zz, zE, evop, ev, ofVal, tget, tput, ok, V.isUndef, intBin, guardOf, Ch.on, xport, hget, structAt, Blk.width, resOf, resV, resVs, ↓reduceIte, reduceCtorEq, Nat.reduceLT, Nat.reduceEqDiff, Nat.reduceAdd, nilTest]
  by_cases g : takesO o > 0
  · have g' : 0 < takesO o := g
    simp (maxSteps := 2000000) -implicitDefEqProofs only [zz, ↓reduceIte, g]
  · have g' : ¬ 0 < takesO o := g
    simp (maxSteps := 2000000) -implicitDefEqProofs only [zz, ↓reduceIte, g]

theorem c_two (k a b : Int) : CSpec Tryz.prog 217 [.int .i64 k, .int .i64 a, .int .i64 b] (.int .i64 (twoT k a b)) := by
  refine CSpec.of_awp envOf_ok hmix Tryz.func217 rfl (fun args w => Tryz.call217 args w) (by simp [Tryz.f217]) ?_
  simp only [Tryz.f217]
  simp (maxSteps := 2000000) -implicitDefEqProofs only [zz, evop, ev, ofVal, tget, tput, ok, V.isUndef, intBin, guardOf, initT, Ch.on, calleeOf, withArgs, told, ↓reduceIte, reduceCtorEq, Nat.reduceLT, Nat.reduceEqDiff, Nat.reduceAdd, nilTest]
  unfold twoT
  by_cases h4 : k = 4
  · have e : (k == 4) = true := by simpa using h4
    simp (maxSteps := 2000000) -implicitDefEqProofs only [↓reduceIte, e]
    refine acall_flat (by first | rfl | (simp only [xports, xport, hget]; rfl)) (c_Add a b) rfl ?_
    try simp (maxSteps := 2000000) -implicitDefEqProofs only [zz, evop, ev, tget, tput, ok, V.isUndef, Ch.on, xport, resOf, resV, resVs, ↓reduceIte, Nat.reduceLT]
    rw [if_pos h4]
  have e4 : (k == 4) = false := by simpa using h4
  by_cases h5 : k = 5
  · have e : (k == 5) = true := by simpa using h5
    simp (maxSteps := 2000000) -implicitDefEqProofs only [zz, ↓reduceIte, e, e4]
    refine acall_flat (by first | rfl | (simp only [xports, xport, hget]; rfl)) (c_Sub a b) rfl ?_
    try simp (maxSteps := 2000000) -implicitDefEqProofs only [zz, evop, ev, tget, tput, ok, V.isUndef, Ch.on, xport, resOf, resV, resVs, ↓reduceIte, Nat.reduceLT]
    rw [if_neg h4, if_pos h5]
  have e5 : (k == 5) = false := by simpa using h5
  by_cases h6 : k = 6
  · have e : (k == 6) = true := by simpa using h6
    simp (maxSteps := 2000000) -implicitDefEqProofs only [zz, ↓reduceIte, e, e4, e5]
    refine acall_flat (by first | rfl | (simp only [xports, xport, hget]; rfl)) (c_Mul a b) rfl ?_
    try simp (maxSteps := 2000000) -implicitDefEqProofs only [zz, evop, ev, tget, tput, ok, V.isUndef, Ch.on, xport, resOf, resV, resVs, ↓reduceIte, Nat.reduceLT]
    rw [if_neg h4, if_neg h5, if_pos h6]
  have e6 : (k == 6) = false := by simpa using h6
  by_cases h7 : k = 7
  · have e : (k == 7) = true := by simpa using h7
    simp (maxSteps := 2000000) -implicitDefEqProofs only [zz, ↓reduceIte, e, e4, e5, e6]
    refine acall_flat (by first | rfl | (simp only [xports, xport, hget]; rfl)) (c_Truth _) rfl ?_
    try simp (maxSteps := 2000000) -implicitDefEqProofs only [zz, evop, ev, tget, tput, ok, V.isUndef, Ch.on, xport, resOf, resV, resVs, ↓reduceIte, Nat.reduceLT]
    rw [if_neg h4, if_neg h5, if_neg h6, if_pos h7]
  have e7 : (k == 7) = false := by simpa using h7
  by_cases h8 : k = 8
  · have e : (k == 8) = true := by simpa using h8
    simp (maxSteps := 2000000) -implicitDefEqProofs only [zz, ↓reduceIte, e, e4, e5, e6, e7]
    refine acall_flat (by first | rfl | (simp only [xports, xport, hget]; rfl)) (c_Truth _) rfl ?_
    try simp (maxSteps := 2000000) -implicitDefEqProofs only [zz, evop, ev, tget, tput, ok, V.isUndef, Ch.on, xport, resOf, resV, resVs, ↓reduceIte, Nat.reduceLT]
    rw [if_neg h4, if_neg h5, if_neg h6, if_neg h7, if_pos h8]
  have e8 : (k == 8) = false := by simpa using h8
  rw [if_neg h4, if_neg h5, if_neg h6, if_neg h7, if_neg h8]
  by_cases h9 : k = 9
  · have e : (k == 9) = true := by simpa using h9
    rw [if_pos h9]
    cases ha : (a != 0)
    · simp (maxSteps := 2000000) -implicitDefEqProofs only [zz, ↓reduceIte, e, e4, e5, e6, e7, e8]
      refine acall_flat (by first | rfl | (simp only [xports, xport, hget]; rfl)) (c_Truth _) rfl ?_
      try simp (maxSteps := 2000000) -implicitDefEqProofs only [zz, evop, ev, tget, tput, ok, V.isUndef, Ch.on, xport, resOf, resV, resVs, ↓reduceIte, Nat.reduceLT]
    · simp (maxSteps := 2000000) -implicitDefEqProofs only [zz, ↓reduceIte, e, e4, e5, e6, e7, e8]
      refine acall_flat (by first | rfl | (simp only [xports, xport, hget]; rfl)) (c_Truth _) rfl ?_
      try simp (maxSteps := 2000000) -implicitDefEqProofs only [zz, evop, ev, tget, tput, ok, V.isUndef, Ch.on, xport, resOf, resV, resVs, ↓reduceIte, Nat.reduceLT]
  have e9 : (k == 9) = false := by simpa using h9
  rw [if_neg h9]
  cases ha : (a != 0)
  · simp (maxSteps := 2000000) -implicitDefEqProofs only [zz, ↓reduceIte, e4, e5, e6, e7, e8, e9, Bool.false_or]
    refine acall_flat (by first | rfl | (simp only [xports, xport, hget]; rfl)) (c_Truth _) rfl ?_
    try simp (maxSteps := 2000000) -implicitDefEqProofs only [zz, evop, ev, tget, tput, ok, V.isUndef, Ch.on, xport, resOf, resV, resVs, ↓reduceIte, Nat.reduceLT]
  · simp (maxSteps := 2000000) -implicitDefEqProofs only [zz, ↓reduceIte, e4, e5, e6, e7, e8, e9, Bool.true_or]
    refine acall_flat (by first | rfl | (simp only [xports, xport, hget]; rfl)) (c_Truth _) rfl ?_
    try simp (maxSteps := 2000000) -implicitDefEqProofs only [zz, evop, ev, tget, tput, ok, V.isUndef, Ch.on, xport, resOf, resV, resVs, ↓reduceIte, Nat.reduceLT]

theorem c_r07_both (k a b : Int) (ha : spanR a = true) (hb : spanR b = true) : CSpec Tryz.prog 181 [.int .i64 k, .int .i64 a, .int .i64 b] (.int .i64 (twoT k a b)) := by
  refine CSpec.of_awp envOf_ok hmix Tryz.func181 rfl (fun args w => Tryz.call181 args w) (by simp [Tryz.f181]) ?_
  simp only [Tryz.f181]
  simp (maxSteps := 2000000) -implicitDefEqProofs only [zz, evop, ev, ofVal, tget, tput, ok, V.isUndef, intBin, guardOf, initT, Ch.on, calleeOf, withArgs, told, ↓reduceIte, reduceCtorEq, Nat.reduceLT, Nat.reduceEqDiff, Nat.reduceAdd, nilTest]
  unfold twoT
  rw [w32_id ha, w32_id hb]
  by_cases h4 : k = 4
  · have e : (k == 4) = true := by simpa using h4
    simp (maxSteps := 2000000) -implicitDefEqProofs only [↓reduceIte, e]
    refine acall_flat (by first | rfl | (simp only [xports, xport, hget]; rfl)) (c_r01_Wrap _) rfl ?_
    try simp (maxSteps := 2000000) -implicitDefEqProofs only [zz, evop, ev, tget, tput, ok, V.isUndef, Ch.on, xport, resOf, resV, resVs, ↓reduceIte, Nat.reduceLT]
    rw [if_pos h4]
    try rw [wrap64_w32]
  have e4 : (k == 4) = false := by simpa using h4
  by_cases h5 : k = 5
  · have e : (k == 5) = true := by simpa using h5
    simp (maxSteps := 2000000) -implicitDefEqProofs only [zz, ↓reduceIte, e, e4]
    refine acall_flat (by first | rfl | (simp only [xports, xport, hget]; rfl)) (c_r01_Wrap _) rfl ?_
    try simp (maxSteps := 2000000) -implicitDefEqProofs only [zz, evop, ev, tget, tput, ok, V.isUndef, Ch.on, xport, resOf, resV, resVs, ↓reduceIte, Nat.reduceLT]
    rw [if_neg h4, if_pos h5]
    try rw [wrap64_w32]
  have e5 : (k == 5) = false := by simpa using h5
  by_cases h6 : k = 6
  · have e : (k == 6) = true := by simpa using h6
    simp (maxSteps := 2000000) -implicitDefEqProofs only [zz, ↓reduceIte, e, e4, e5]
    refine acall_flat (by first | rfl | (simp only [xports, xport, hget]; rfl)) (c_r01_Mul a b) rfl ?_
    try simp (maxSteps := 2000000) -implicitDefEqProofs only [zz, evop, ev, tget, tput, ok, V.isUndef, Ch.on, xport, resOf, resV, resVs, ↓reduceIte, Nat.reduceLT]
    rw [if_neg h4, if_neg h5, if_pos h6]
    try rw [w32_id ha, w32_id hb]
  have e6 : (k == 6) = false := by simpa using h6
  by_cases h7 : k = 7
  · have e : (k == 7) = true := by simpa using h7
    simp (maxSteps := 2000000) -implicitDefEqProofs only [zz, ↓reduceIte, e, e4, e5, e6]
    refine acall_flat (by first | rfl | (simp only [xports, xport, hget]; rfl)) (c_r07_truth _) rfl ?_
    try simp (maxSteps := 2000000) -implicitDefEqProofs only [zz, evop, ev, tget, tput, ok, V.isUndef, Ch.on, xport, resOf, resV, resVs, ↓reduceIte, Nat.reduceLT]
    rw [if_neg h4, if_neg h5, if_neg h6, if_pos h7]
  have e7 : (k == 7) = false := by simpa using h7
  by_cases h8 : k = 8
  · have e : (k == 8) = true := by simpa using h8
    simp (maxSteps := 2000000) -implicitDefEqProofs only [zz, ↓reduceIte, e, e4, e5, e6, e7]
    refine acall_flat (by first | rfl | (simp only [xports, xport, hget]; rfl)) (c_r07_truth _) rfl ?_
    try simp (maxSteps := 2000000) -implicitDefEqProofs only [zz, evop, ev, tget, tput, ok, V.isUndef, Ch.on, xport, resOf, resV, resVs, ↓reduceIte, Nat.reduceLT]
    rw [if_neg h4, if_neg h5, if_neg h6, if_neg h7, if_pos h8]
  have e8 : (k == 8) = false := by simpa using h8
  rw [if_neg h4, if_neg h5, if_neg h6, if_neg h7, if_neg h8]
  by_cases h9 : k = 9
  · have e : (k == 9) = true := by simpa using h9
    rw [if_pos h9]
    cases ha : (a != 0)
    · simp (maxSteps := 2000000) -implicitDefEqProofs only [zz, ↓reduceIte, e, e4, e5, e6, e7, e8]
      refine acall_flat (by first | rfl | (simp only [xports, xport, hget]; rfl)) (c_r07_truth _) rfl ?_
      try simp (maxSteps := 2000000) -implicitDefEqProofs only [zz, evop, ev, tget, tput, ok, V.isUndef, Ch.on, xport, resOf, resV, resVs, ↓reduceIte, Nat.reduceLT]
    · simp (maxSteps := 2000000) -implicitDefEqProofs only [zz, ↓reduceIte, e, e4, e5, e6, e7, e8]
      refine acall_flat (by first | rfl | (simp only [xports, xport, hget]; rfl)) (c_r07_truth _) rfl ?_
      try simp (maxSteps := 2000000) -implicitDefEqProofs only [zz, evop, ev, tget, tput, ok, V.isUndef, Ch.on, xport, resOf, resV, resVs, ↓reduceIte, Nat.reduceLT]
  have e9 : (k == 9) = false := by simpa using h9
  rw [if_neg h9]
  cases ha : (a != 0)
  · simp (maxSteps := 2000000) -implicitDefEqProofs only [zz, ↓reduceIte, e4, e5, e6, e7, e8, e9, Bool.false_or]
    refine acall_flat (by first | rfl | (simp only [xports, xport, hget]; rfl)) (c_r07_truth _) rfl ?_
    try simp (maxSteps := 2000000) -implicitDefEqProofs only [zz, evop, ev, tget, tput, ok, V.isUndef, Ch.on, xport, resOf, resV, resVs, ↓reduceIte, Nat.reduceLT]
  · simp (maxSteps := 2000000) -implicitDefEqProofs only [zz, ↓reduceIte, e4, e5, e6, e7, e8, e9, Bool.true_or]
    refine acall_flat (by first | rfl | (simp only [xports, xport, hget]; rfl)) (c_r07_truth _) rfl ?_
    try simp (maxSteps := 2000000) -implicitDefEqProofs only [zz, evop, ev, tget, tput, ok, V.isUndef, Ch.on, xport, resOf, resV, resVs, ↓reduceIte, Nat.reduceLT]

theorem c_r07_one (o : Int × Int) : CSpec Tryz.prog 177 [dW o] (.bool (mayO o)) := by
  refine CSpec.of_awp envOf_ok hmix Tryz.func177 rfl (fun args w => Tryz.call177 args w) (by simp [Tryz.f177]) ?_
  simp only [Tryz.f177]
  simp (maxSteps := 2000000) -implicitDefEqProofs only [zz, zE, evop, ev, ofVal, tget, tput, ok, V.isUndef, intBin, guardOf, initT, Ch.on, calleeOf, withArgs, told, xport, hget, hput, V.cells, structAt, Blk.width, resOf, resV, resVs, ↓reduceIte, reduceCtorEq, Nat.reduceLT, Nat.reduceEqDiff, Nat.reduceAdd, nilTest, dW]
  unfold mayO
  by_cases h1 : o.1 = 1
  · have e : (o.1 == 1) = true := by simpa using h1
    simp (maxSteps := 2000000) -implicitDefEqProofs only [↓reduceIte, e]
    refine acall_flat (by first | rfl | (simp only [xports, xport, hget]; rfl)) (c_r01_Right o.2) rfl ?_
    try simp (maxSteps := 2000000) -implicitDefEqProofs only [zz, evop, ev, tget, tput, ok, V.isUndef, Ch.on, xport, resOf, resV, resVs, ↓reduceIte, Nat.reduceLT]
    rw [if_pos h1]
  have e1 : (o.1 == 1) = false := by simpa using h1
  by_cases h2 : o.1 = 2
  · have e : (o.1 == 2) = true := by simpa using h2
    have d : decide (o.2 ≤ 63) = decide (o.2 < 64) := by rw [decide_eq_decide]; omega
    by_cases g : o.2 ≥ 0
    · rw [if_neg h1, if_pos h2]
      simp (maxSteps := 2000000) -implicitDefEqProofs only [zz, ↓reduceIte, e1, e, g, d]
    · rw [if_neg h1, if_pos h2]
      simp (maxSteps := 2000000) -implicitDefEqProofs only [zz, ↓reduceIte, e1, e, g]
  have e2 : (o.1 == 2) = false := by simpa using h2
  by_cases h3 : o.1 = 3
  · have e : (o.1 == 3) = true := by simpa using h3
    have d : decide (o.2 ≤ 7) = decide (o.2 < 8) := by rw [decide_eq_decide]; omega
    by_cases g : o.2 ≥ 0
    · rw [if_neg h1, if_neg h2, if_pos h3]
      simp (maxSteps := 2000000) -implicitDefEqProofs only [zz, ↓reduceIte, e1, e2, e, g, d]
    · rw [if_neg h1, if_neg h2, if_pos h3]
      simp (maxSteps := 2000000) -implicitDefEqProofs only [zz, ↓reduceIte, e1, e2, e, g]
  have e3 : (o.1 == 3) = false := by simpa using h3
  rw [if_neg h1, if_neg h2, if_neg h3]
  by_cases g4 : o.1 ≥ 4
  · by_cases g11 : o.1 ≤ 11
    · have hp : 0 < takesO o := by
        unfold takesO
        by_cases g : 4 ≤ o.1 ∧ o.1 ≤ 10
        · rw [if_pos g]; decide
        · rw [if_neg g, if_pos (by omega)]; decide
      simp (maxSteps := 2000000) -implicitDefEqProofs only [zz, ↓reduceIte, e1, e2, e3, g4, g11, hp]
    · have hp : ¬ 0 < takesO o := by
        unfold takesO
        rw [if_neg (by omega), if_neg (by omega)]; decide
      simp (maxSteps := 2000000) -implicitDefEqProofs only [zz, ↓reduceIte, e1, e2, e3, g4, g11, hp]
  · have hp : ¬ 0 < takesO o := by
      unfold takesO
      rw [if_neg (by omega), if_neg (by omega)]; decide
    simp (maxSteps := 2000000) -implicitDefEqProofs only [zz, ↓reduceIte, e1, e2, e3, g4, hp]
end Go.Proofs.YtjhfpabldidlgaaGreat.AM

/- A result in own blocks, as closed data. -/
set_option linter.all false
namespace Go.Proofs.YtjhfpabldidlgaaGreat.AM
open Go Go.RowKit

theorem FSpec.cspec {P : Program} {f : Nat} {args : List D} {r : V} {H1 : Heap} {d : D} (h : FSpec P f args r H1) (hx : xport H1 40 r = some d) : CSpec P f args d := by
  refine ⟨h.1, fun S0 w cs hS0 hlen hrel => (h.2 S0 w cs hS0 hlen hrel).mono ?_⟩
  rintro e w' ⟨c, φ1, S1, rfl, hr, hH1, hk⟩
  refine ⟨c, fun B => (S0 B ∨ w.heap.size ≤ B) ∧ B < w'.heap.size, rfl, ?_, fun B hB => hB, hk⟩
  have hv1 : ∀ B, S1 B → S0 B ∨ w.heap.size ≤ B := fun B hB => by
    rcases hH1.vis B hB with h | h | h
    · exact .inl h
    · exact h.elim
    · exact .inr h
  have hv2 : ∀ i L, φ1 i = some L → S0 L.blk ∨ w.heap.size ≤ L.blk := fun i L hL => by
    rcases hH1.own i L hL with h | h
    · exact h.elim
    · exact .inr h
  exact xport_rel hH1 (fun B hB => ⟨hv1 B hB, hH1.low B hB⟩) 40 r c d (fun i _ L hL => ⟨hv2 i L hL, hH1.lt hL⟩) hr hx


end Go.Proofs.YtjhfpabldidlgaaGreat.AM

/- Cutting a body: what a part of the code comes to, said of states that are the same but for what is no longer asked. -/
set_option linter.all false
namespace Go.Proofs.YtjhfpabldidlgaaGreat.AM
open Go Go.RowKit

section
variable {P : Program} {E : Env} {n m : Nat}

/-- Whoever stands here comes, by this code, to where Q holds. -/
def Snd (P : Program) (E : Env) (n m : Nat) (c : Code) (T : Tmps) (H : Heap) (Q : Ex → Tmps → Heap → Prop) : Prop :=
  ∀ (C : Ctx) (φ : Nat → Option Loc) (S : Nat → Prop) (a : Act) (w : World), Stands C n T H φ S a w → c.wp P (PostQ C n m φ S H w Q) a w

theorem Snd.of_awp (hE : EOk P E) (hmix : P.follows .mixedOrders = true) {c : Code} {T : Tmps} {H : Heap} {Q : Ex → Tmps → Heap → Prop} (h : awp P E n m c T H Q) : Snd P E n m c T H Q :=
  fun C φ S a w hst => awp_sound hE hmix c hst h

theorem Snd.weak {c : Code} {T T' : Tmps} {H H' : Heap} {Q : Ex → Tmps → Heap → Prop} (hw : Weak m T H T' H') (h : Snd P E n m c T' H' Q) : Snd P E n m c T H Q := fun C φ S a w hst => by
  obtain ⟨φ', S', h1, h2, h3⟩ := hw C φ S w a hst.heap hst.tmps
  exact wp_mono (h C φ' S' a w ⟨h1, h2, hst.size, hst.defers⟩) (fun e a' w' hp => hp.from h3 .refl)

/-- Behind the first part. -/
def cutK (P : Program) (E : Env) (n m : Nat) (y : Code) (Q : Ex → Tmps → Heap → Prop) : Ex → Tmps → Heap → Prop := fun e T H => match e with
  | .normal => Snd P E n m y T H Q
  | e => Q e T H
theorem cutK_normal {y : Code} {Q : Ex → Tmps → Heap → Prop} {T : Tmps} {H : Heap} : cutK P E n m y Q .normal T H = Snd P E n m y T H Q := rfl
theorem Snd.seq (hE : EOk P E) (hmix : P.follows .mixedOrders = true) {x y : Code} {T : Tmps} {H : Heap} {Q : Ex → Tmps → Heap → Prop} (h : awp P E n m x T H (cutK P E n m y Q)) : Snd P E n m (.seq x y) T H Q := fun C φ S a w hst => by
  refine wp_seq (wp_mono (awp_sound hE hmix x hst h) ?_)
  rintro e a1 w1 ⟨e', T', H', φ', S', hq, rfl, hst', hs', hk'⟩
  cases e' with
  | normal => exact wp_mono (hq C φ' S' a1 w1 hst') (fun e a2 w2 hp => hp.from hs' hk')
  | exit id => exact ⟨.exit id, T', H', φ', S', hq, rfl, hst', hs', hk'⟩
  | ret => exact ⟨.ret, T', H', φ', S', hq, rfl, hst', hs', hk'⟩

/-- The first k parts; the rest. -/
def hdN : Nat → Code → Code
  | k + 1, .seq x y => .seq x (hdN k y)
  | _, _ => .skip
def tlN : Nat → Code → Code
  | k + 1, .seq _ y => tlN k y
  | _, c => c

theorem Snd.upto (hE : EOk P E) (hmix : P.follows .mixedOrders = true) {Q : Ex → Tmps → Heap → Prop} : ∀ (k : Nat) (c : Code) {T : Tmps} {H : Heap}, awp P E n m (hdN k c) T H (cutK P E n m (tlN k c) Q) → Snd P E n m c T H Q
  | 0, c, T, H, h => h
  | k + 1, c, T, H, h => by
    cases c with
    | seq x y =>
      refine Snd.seq hE hmix (awp_mono x (fun e T' H' he => ?_) h)
      cases e with
      | normal => exact Snd.upto hE hmix k y he
      | exit i => exact he
      | ret => exact he
    | _ => exact h

theorem RSpec.of_snd {f : Nat} {fn : Func} {body : Code} {vs : List V} {H0 H1 : Heap} {r : V} (hE : EOk P E) (hmix : P.follows .mixedOrders = true) (hf : P.funcs[f]? = some fn) (hb : fn.body = some body) (hcall : Callable P f) (hn : vs.length ≤ fn.ntmps)
    (h : Snd P E fn.ntmps H0.length body (initV 0 vs) H0 (FinR E H0.length fn.results.toList r H1)) : RSpec P f vs H0 r H1 := by
  refine ⟨hcall, fun C φ S w cs hH hv => ?_⟩
  have hlen := hv.len
  have hsz : (cs.toArray ++ Array.replicate (fn.ntmps - cs.toArray.size) undef).size = fn.ntmps := by simp; omega
  have hst : Stands C fn.ntmps (initV 0 vs) H0 φ S { tmps := cs.toArray ++ Array.replicate (fn.ntmps - cs.toArray.size) undef, defers := [] } w := by
    refine ⟨hH, fun t => ?_, hsz, rfl⟩
    rw [initV_get]
    simp only [Nat.zero_le, if_true, Nat.sub_zero]
    by_cases ht : t < vs.length
    · have hc : t < cs.length := by omega
      rw [List.getElem?_eq_getElem ht]
      have : (cs.toArray ++ Array.replicate (fn.ntmps - cs.toArray.size) undef).getD t undef = cs[t] := by
        simp [Array.getElem?_append, hc]
      rw [this]
      exact hv.at_ t _ _ (List.getElem?_eq_getElem ht) (List.getElem?_eq_getElem hc)
    · rw [List.getElem?_eq_none (by omega)]
      exact .d _ _ (.undef _)
  refine calls_of_wp hf hb (wp_mono (h _ _ _ _ _ hst) ?_)
  rintro e a' w' ⟨e', T', H', φ', S', hq, rfl, hst', hs', hk'⟩
  have fin : (∃ v, resOf E T' H' fn.results.toList = some v ∧ Weak H0.length [(0, v)] H' [(0, r)] H1) → a'.defers = [] ∧ ∃ v, (results fn a'.tmps).run P w' = .ok v w' ∧
      ∃ c φ1 S1, Ending.returned v = .returned c ∧ RV φ1 S1 H1 w' r c ∧ HRel C φ1 S1 H1 w' ∧ Step φ S H0 w φ1 S1 H1 w' ∧ Kp C w w' := by
    rintro ⟨v, hv, hx⟩
    obtain ⟨c, hrun, hc⟩ := resOf_sound hE hst' hv
    obtain ⟨φ1, S1, g1, g2, g3⟩ := hx _ φ' S' w' { tmps := #[c], defers := [] } hst'.heap (fun t => by
      simp only [tget]
      split
      · rename_i e; subst e; exact hc
      · exact .d _ _ (.undef _))
    have hall := hs'.trans g3
    refine ⟨hst'.defers, c, hrun, c, φ1, S1, rfl, ?_, g1, ⟨hall.keepS, fun id hu => hall.keepH id (Classical.byContradiction fun hn => hu (hget_length H0 id (by omega))) hu⟩, hk'⟩
    have := g2 0
    simpa [tget] using this
  cases e' with
  | normal => exact fin hq
  | ret => exact fin hq
  | exit id => exact hq.elim
theorem NSpec.of_snd {f : Nat} {fn : Func} {body : Code} {vs : List V} {H0 : Heap} {Qf : V → Heap → Prop} (hE : EOk P E) (hmix : P.follows .mixedOrders = true) (hf : P.funcs[f]? = some fn) (hb : fn.body = some body) (hcall : Callable P f) (hn : vs.length ≤ fn.ntmps)
    (h : Snd P E fn.ntmps H0.length body (initV 0 vs) H0 (FinN E H0.length fn.results.toList Qf)) : NSpec P f vs H0 Qf := by
  refine ⟨hcall, fun C φ S w cs hH hv => ?_⟩
  have hlen := hv.len
  have hsz : (cs.toArray ++ Array.replicate (fn.ntmps - cs.toArray.size) undef).size = fn.ntmps := by simp; omega
  have hst : Stands C fn.ntmps (initV 0 vs) H0 φ S { tmps := cs.toArray ++ Array.replicate (fn.ntmps - cs.toArray.size) undef, defers := [] } w := by
    refine ⟨hH, fun t => ?_, hsz, rfl⟩
    rw [initV_get]
    simp only [Nat.zero_le, if_true, Nat.sub_zero]
    by_cases ht : t < vs.length
    · have hc : t < cs.length := by omega
      rw [List.getElem?_eq_getElem ht]
      have : (cs.toArray ++ Array.replicate (fn.ntmps - cs.toArray.size) undef).getD t undef = cs[t] := by
        simp [Array.getElem?_append, hc]
      rw [this]
      exact hv.at_ t _ _ (List.getElem?_eq_getElem ht) (List.getElem?_eq_getElem hc)
    · rw [List.getElem?_eq_none (by omega)]
      exact .d _ _ (.undef _)
  refine calls_of_wp hf hb (wp_mono (h _ _ _ _ _ hst) ?_)
  rintro e a' w' ⟨e', T', H', φ', S', hq, rfl, hst', hs', hk'⟩
  obtain ⟨r, H1, hQ, hq⟩ := hq
  have fin : (∃ v, resOf E T' H' fn.results.toList = some v ∧ Weak H0.length [(0, v)] H' [(0, r)] H1) → a'.defers = [] ∧ ∃ v, (results fn a'.tmps).run P w' = .ok v w' ∧
      ∃ r H1, Qf r H1 ∧ ∃ c φ1 S1, Ending.returned v = .returned c ∧ RV φ1 S1 H1 w' r c ∧ HRel C φ1 S1 H1 w' ∧ Step φ S H0 w φ1 S1 H1 w' ∧ Kp C w w' := by
    rintro ⟨v, hv, hx⟩
    obtain ⟨c, hrun, hc⟩ := resOf_sound hE hst' hv
    obtain ⟨φ1, S1, g1, g2, g3⟩ := hx _ φ' S' w' { tmps := #[c], defers := [] } hst'.heap (fun t => by
      simp only [tget]
      split
      · rename_i e; subst e; exact hc
      · exact .d _ _ (.undef _))
    have hall := hs'.trans g3
    refine ⟨hst'.defers, c, hrun, r, H1, hQ, c, φ1, S1, rfl, ?_, g1, ⟨hall.keepS, fun id hu => hall.keepH id (Classical.byContradiction fun hn => hu (hget_length H0 id (by omega))) hu⟩, hk'⟩
    have := g2 0
    simpa [tget] using this
  cases e' with
  | normal => exact fin hq
  | ret => exact fin hq
  | exit id => exact hq.elim
end

end Go.Proofs.YtjhfpabldidlgaaGreat.AM

/- Terms: do they stand well. -/
set_option linter.all false
set_option maxRecDepth 100000
set_option maxHeartbeats 4000000
namespace Go.Proofs.YtjhfpabldidlgaaGreat.AM
open Go Go.RowKit

theorem c_IndexFunc_O (ns : List (Int × Int)) (f : Nat) (cap : List D) (p : Int × Int → Bool) (hl : ns.length ≤ 1000000) (hcap : cap.length ≤ 8) (hp : ∀ n ∈ ns, CSpec Tryz.prog f (dW n :: cap) (.bool (p n))) : CSpec Tryz.prog 239 [.vec (ns.map dW), .func (f, 0) cap] (.int .i64 (idxOf p ns)) := by
  refine CSpec.of_awp envOf_ok hmix Tryz.func239 rfl (fun args w => Tryz.call239 args w) (by simp [Tryz.f239]) ?_
  simp only [Tryz.f239]
  simp (maxSteps := 2000000) -implicitDefEqProofs only [zz, zE, evop, ev, ofVal, tget, tput, ok, V.isUndef, initT, Ch.on, sliceOf, lenOf, ↓reduceIte, reduceCtorEq, Nat.reduceLT, Int.reduceNeg]
  refine wloop_ind (σ := Nat) (fun i => ns.length - i) (fun i => [(8, .d (.int .i64 i)), (7, .d (.int .i64 ns.length)), (4, .d (.int .i64 0)), (0, .d (.vec (ns.map dW))), (1, .d (.func (f, 0) cap))]) (fun _ => []) (fun i => i ≤ ns.length ∧ ∀ j < i, ∀ x, ns[j]? = some x → p x = false) 0 ⟨Nat.zero_le _, fun j hj => by omega⟩ (Weak.sub (by simp [tget])) ?_
  intro i ⟨hi, hb⟩
  rcases Nat.lt_or_ge i ns.length with h | h
  · have hx : ns[i]? = some ns[i] := List.getElem?_eq_getElem h
    have h' : ((i : Int) < (ns.length : Int)) := by omega
    simp (maxSteps := 2000000) -implicitDefEqProofs only [zz, zE, evop, ev, tget, tput, ok, V.isUndef, intBin, Ch.on, calleeOf, withArgs, told, D.cells, loadD, ↓reduceIte, reduceCtorEq, Nat.reduceLT, Nat.reduceEqDiff, Nat.reduceAdd, Nat.reduceLeDiff, Int.reduceNeg, nilTest, dW, h', List.getElem?_map, hx, Option.map_some, Int.natCast_nonneg]
    refine acall_flat (ds := dW ns[i] :: cap) (by simp only [xports, xport, xports_ds cap 39 (by omega), dW]) (hp _ (List.getElem_mem h)) rfl ?_
    simp (maxSteps := 2000000) -implicitDefEqProofs only [zz, evop, ev, ofVal, tget, tput, ok, V.isUndef, intBin, Ch.on, told, xport, resOf, resV, resVs, ↓reduceIte, Nat.reduceLT, Nat.reduceEqDiff, Int.reduceNeg, nilTest]
    split
    · rename_i hpx
      simp [idxOf, findIdx_at h hb hpx]
    · rename_i hpx
      refine ⟨i + 1, ⟨h, fun j hj x hxj => ?_⟩, by omega, Weak.sub ?_⟩
      · rcases Nat.lt_or_ge j i with hji | hji
        · exact hb j hji x hxj
        · have : j = i := by omega
          subst this
          rw [hx] at hxj; cases hxj
          simpa using hpx
      · have hw : IntKind.i64.wrap ((i : Int) + 1) = (i : Int) + 1 := by rw [IntKind.wrap_i64]; omega
        simp [tget, hw]
  · have h' : ¬ ((i : Int) < (ns.length : Int)) := by omega
    simp (maxSteps := 2000000) -implicitDefEqProofs only [zz, evop, ev, ofVal, tget, tput, ok, V.isUndef, intBin, Ch.on, told, xport, resOf, resV, resVs, ↓reduceIte, Nat.reduceLT, Nat.reduceEqDiff, Int.reduceNeg, nilTest, h']
    have : ns.findIdx? p = none := by
      rw [List.findIdx?_eq_none_iff]
      intro x hx
      obtain ⟨j, hj, rfl⟩ := List.getElem_of_mem hx
      simpa using hb j (by omega) _ (List.getElem?_eq_getElem hj)
    simp [idxOf, this]

theorem c_ContainsFunc_O (ns : List (Int × Int)) (f : Nat) (cap : List D) (p : Int × Int → Bool) (hl : ns.length ≤ 1000000) (hcap : cap.length ≤ 8) (hp : ∀ n ∈ ns, CSpec Tryz.prog f (dW n :: cap) (.bool (p n))) : CSpec Tryz.prog 228 [.vec (ns.map dW), .func (f, 0) cap] (.bool (ns.any p)) := by
  refine CSpec.of_awp envOf_ok hmix Tryz.func228 rfl (fun args w => Tryz.call228 args w) (by simp [Tryz.f228]) ?_
  simp only [Tryz.f228]
  simp (maxSteps := 2000000) -implicitDefEqProofs only [zz, evop, ev, ofVal, tget, tput, ok, V.isUndef, initT, Ch.on, calleeOf, withArgs, ↓reduceIte, reduceCtorEq, Nat.reduceLT, Nat.reduceEqDiff]
  refine acall_flat (by first | rfl | (simp only [xports, xport, hget]; rfl)) (c_IndexFunc_O ns f cap p hl hcap hp) rfl ?_
  try simp (maxSteps := 2000000) -implicitDefEqProofs only [zz, evop, ev, ofVal, tget, tput, ok, V.isUndef, intBin, Ch.on, xport, resOf, resV, resVs, ↓reduceIte, Nat.reduceLT, nilTest]
  rw [idxOf_nonneg]



theorem c_CheckO (o : Int × Int) : CSpec Tryz.prog 229 [dW o] (.bool (!mayO o)) := by
  refine CSpec.of_awp envOf_ok hmix Tryz.func229 rfl (fun args w => Tryz.call229 args w) (by simp [Tryz.f229]) ?_
  simp only [Tryz.f229]
  simp (maxSteps := 2000000) -implicitDefEqProofs only [zz, zE, evop, ev, ofVal, tget, tput, ok, V.isUndef, initT, Ch.on, calleeOf, withArgs, hget, hput, V.cells, ↓reduceIte, Nat.reduceLT, Nat.reduceEqDiff, Nat.reduceAdd, Nat.reduceLeDiff, dW]
  refine acall_flat (by first | rfl | (simp only [xports, xport, hget]; rfl)) (c_may o) rfl ?_
  try simp (maxSteps := 2000000) -implicitDefEqProofs only [zz, evop, ev, tget, tput, ok, V.isUndef, Ch.on, xport, resOf, resV, resVs, ↓reduceIte, Nat.reduceLT]

/-- How many numbers there are behind so many operations; none: there were too few. -/
def walkN : List (Int × Int) → Int → Option Int
  | [], n => some n
  | o :: t, n => if n < takesO o then none else walkN t (n + (1 - takesO o))
theorem takesO_rng (o : Int × Int) : 0 ≤ takesO o ∧ takesO o ≤ 2 := by
  unfold takesO; split
  · omega
  · split <;> omega
theorem walkN_snoc : ∀ (t : List (Int × Int)) (o : Int × Int) (n : Int), walkN (t ++ [o]) n = match walkN t n with
    | some m => if m < takesO o then none else some (m + (1 - takesO o))
    | none => none
  | [], o, n => by simp [walkN]
  | a :: t, o, n => by
    simp only [List.cons_append, walkN]
    split
    · rfl
    · exact walkN_snoc t o _
theorem walkN_rng : ∀ (t : List (Int × Int)) (n m : Int), walkN t n = some m → 0 ≤ n → 0 ≤ m ∧ m ≤ n + t.length
  | [], n, m, h, h0 => by simp [walkN] at h; subst h; simp; exact h0
  | o :: t, n, m, h, h0 => by
    simp only [walkN] at h
    have := takesO_rng o
    split at h
    · cases h
    · obtain ⟨h1, h2⟩ := walkN_rng t _ m h (by omega)
      simp only [List.length_cons]; omega

/-- How many at most. -/
def mostN : List (Int × Int) → Int → Int → Int
  | [], _, x => x
  | o :: t, n, x => mostN t (n + (1 - takesO o)) (if n + (1 - takesO o) > x then n + (1 - takesO o) else x)
def walkR (t : List (Int × Int)) : Int × Int := match walkN t 0 with
  | some n => (n, mostN t 0 0)
  | none => (-1, 0)
theorem mostN_snoc : ∀ (t : List (Int × Int)) (o : Int × Int) (n x m : Int), walkN t n = some m → mostN (t ++ [o]) n x = (if m + (1 - takesO o) > mostN t n x then m + (1 - takesO o) else mostN t n x)
  | [], o, n, x, m, h => by simp [walkN] at h; subst h; simp [mostN]
  | a :: t, o, n, x, m, h => by
    simp only [walkN] at h
    split at h
    · cases h
    · simp only [List.cons_append, mostN]
      exact mostN_snoc t o _ _ m h
theorem mostN_rng : ∀ (t : List (Int × Int)) (n x m K : Int), walkN t n = some m → 0 ≤ n → 0 ≤ x → n ≤ K → x ≤ K → 0 ≤ mostN t n x ∧ mostN t n x ≤ K + t.length
  | [], n, x, m, K, h, h0, hx, h1, h2 => by simp [mostN]; omega
  | o :: t, n, x, m, K, h, h0, hx, h1, h2 => by
    simp only [walkN] at h
    have := takesO_rng o
    split at h
    · cases h
    · simp only [mostN, List.length_cons]
      have h3 := mostN_rng t (n + (1 - takesO o)) (if n + (1 - takesO o) > x then n + (1 - takesO o) else x) m (K + 1) h (by omega) (by split <;> omega) (by omega) (by split <;> omega)
      omega

theorem c_walk (t : List (Int × Int)) (hl : t.length ≤ 1000000) : CSpec Tryz.prog 231 [.vec (t.map dW)] (.tuple [.int .i64 (walkR t).1, .int .i64 (walkR t).2]) := by
  refine CSpec.of_awp envOf_ok hmix Tryz.func231 rfl (fun args w => Tryz.call231 args w) (by simp [Tryz.f231]) ?_
  simp only [Tryz.f231]
  simp (maxSteps := 2000000) -implicitDefEqProofs only [zz, zE, evop, ev, ofVal, tget, tput, ok, V.isUndef, initT, Ch.on, sliceOf, lenOf, ↓reduceIte, reduceCtorEq, Nat.reduceLT, Int.reduceNeg]
  refine wloop_ind (σ := Nat × Int × Int) (fun s => t.length - s.1) (fun s => [(10, .d (.int .i64 s.1)), (9, .d (.int .i64 t.length)), (8, .d (.vec (t.map dW))), (4, .d (.int .i64 s.2.1)), (5, .d (.int .i64 s.2.2))]) (fun _ => []) (fun s => s.1 ≤ t.length ∧ walkN (t.take s.1) 0 = some s.2.1 ∧ mostN (t.take s.1) 0 0 = s.2.2) (0, 0, 0) ⟨Nat.zero_le _, rfl, rfl⟩ (Weak.sub (by simp [tget])) ?_
  rintro ⟨i, n, x⟩ ⟨hi, hn, hx⟩
  simp only at hi hn hx
  have hr := walkN_rng _ _ _ hn (by omega)
  have hm := mostN_rng _ 0 0 _ 0 hn (by omega) (by omega) (by omega) (by omega)
  rw [hx] at hm
  simp only [List.length_take] at hr hm
  rcases Nat.lt_or_ge i t.length with h | h
  · have hxi : t[i]? = some t[i] := List.getElem?_eq_getElem h
    have h' : ((i : Int) < (t.length : Int)) := by omega
    have hw : IntKind.i64.wrap ((i : Int) + 1) = ((i + 1 : Nat) : Int) := by rw [wrap_in (by omega)]; omega
    have htk := takesO_rng t[i]
    have hT : t.take (i + 1) = t.take i ++ [t[i]] := by rw [List.take_add_one, hxi]; rfl
    have ws := walkN_snoc (t.take i) t[i] 0
    rw [← hT, hn] at ws
    have ms := mostN_snoc (t.take i) t[i] 0 0 n hn
    rw [← hT, hx] at ms
    have w1 : IntKind.i64.wrap (1 - takesO t[i]) = 1 - takesO t[i] := by rw [wrap_in (by omega)]
    have w2 : IntKind.i64.wrap (n + (1 - takesO t[i])) = n + (1 - takesO t[i]) := by rw [wrap_in (by omega)]
    simp (maxSteps := 2000000) -implicitDefEqProofs only [zz, zE, evop, ev, tget, tput, ok, V.isUndef, intBin, Ch.on, calleeOf, withArgs, told, hget, hput, V.cells, D.cells, V.one, loadD, splice, ↓reduceIte, Nat.reduceLT, Nat.reduceEqDiff, Nat.reduceAdd, Nat.reduceLeDiff, Int.reduceNeg, nilTest, dW, h', List.getElem?_map, hxi, Option.map_some, Int.natCast_nonneg]
    refine acall_flat (by first | rfl | (simp only [xports, xport, hget]; rfl)) (c_takes t[i]) rfl ?_
    try simp (maxSteps := 2000000) -implicitDefEqProofs only [zz, zE, evop, ev, ofVal, tget, tput, ok, V.isUndef, intBin, Ch.on, calleeOf, withArgs, told, xport, xports, hget, resOf, resV, resVs, ↓reduceIte, Nat.reduceLT, Nat.reduceEqDiff, Nat.reduceAdd, Nat.reduceLeDiff, Int.reduceNeg, nilTest]
    by_cases hlt : n < takesO t[i]
    · simp (maxSteps := 2000000) -implicitDefEqProofs only [↓reduceIte, Int.reduceNeg, hlt]
      have : walkN t 0 = none := by
        have e : t = t.take (i + 1) ++ t.drop (i + 1) := by simp
        have key : ∀ (a b : List (Int × Int)) (k : Int), walkN a k = none → walkN (a ++ b) k = none := by
          intro a
          induction a with
          | nil => intro b k h; simp [walkN] at h
          | cons y a ih =>
            intro b k h
            simp only [List.cons_append, walkN] at h ⊢
            split
            · rfl
            · rename_i hh; rw [if_neg hh] at h; exact ih b _ h
        rw [e]
        exact key _ _ _ (by simpa [hlt] using ws)
      simp [walkR, this]
    · simp (maxSteps := 2000000) -implicitDefEqProofs only [zz, ↓reduceIte, hlt]
      refine acall_flat (by first | rfl | (simp only [xports, xport, hget]; rfl)) (c_takes t[i]) rfl ?_
      try simp (maxSteps := 2000000) -implicitDefEqProofs only [zz, evop, ev, ofVal, tget, tput, ok, V.isUndef, intBin, Ch.on, ↓reduceIte, Nat.reduceLT, Nat.reduceEqDiff, nilTest]
      rw [w1, w2]
      simp only [if_neg hlt] at ws
      refine ⟨(i + 1, n + (1 - takesO t[i]), if n + (1 - takesO t[i]) > x then n + (1 - takesO t[i]) else x), ⟨by simp only; omega, ws, ms⟩, by simp only; omega, ?_⟩
      exact Weak.trims 0 rfl (by simp [tget, hw, V.lower]) (by simp)
  · have e : i = t.length := by omega
    subst e
    rw [List.take_length] at hn hx
    simp (maxSteps := 2000000) -implicitDefEqProofs only [zz, evop, ev, tget, tput, ok, V.isUndef, intBin, Ch.on, told, xport, xports, resOf, resV, resVs, ↓reduceIte, Nat.reduceLT, Nat.reduceEqDiff, Int.reduceNeg, nilTest, Int.lt_irrefl]
    simp [walkR, hn, hx]

def termC (t : List (Int × Int)) : Int := if t.length < 1 ∨ 12 < t.length ∨ t.any (fun o => !mayO o) = true then 1 else if (walkR t).1 = 1 then 0 else 2
theorem c_term_Check (t : List (Int × Int)) (hl : t.length ≤ 1000000) : CSpec Tryz.prog 209 [.vec (t.map dW)] (.int .i64 (termC t)) := by
  refine CSpec.of_awp envOf_ok hmix Tryz.func209 rfl (fun args w => Tryz.call209 args w) (by simp [Tryz.f209]) ?_
  simp only [Tryz.f209]
  simp (maxSteps := 2000000) -implicitDefEqProofs only [zz, zE, evop, ev, ofVal, tget, tput, ok, V.isUndef, intBin, guardOf, initT, Ch.on, calleeOf, withArgs, told, xport, sliceOf, lenOf, resOf, resV, resVs, ↓reduceIte, reduceCtorEq, Nat.reduceLT, Nat.reduceEqDiff, nilTest]
  by_cases h1 : ((t.length : Int) < 1)
  · have e : termC t = 1 := by unfold termC; rw [if_pos (.inl (by omega))]
    rw [e]
    simp (maxSteps := 2000000) -implicitDefEqProofs only [zz, ↓reduceIte, h1]
  by_cases h2 : ((t.length : Int) > 12)
  · have e : termC t = 1 := by unfold termC; rw [if_pos (.inr (.inl (by omega)))]
    rw [e]
    simp (maxSteps := 2000000) -implicitDefEqProofs only [zz, ↓reduceIte, h1, h2]
  simp (maxSteps := 2000000) -implicitDefEqProofs only [zz, ↓reduceIte, h1, h2]
  refine acall_flat (ds := [.vec (t.map dW), .func (229, 0) []]) (by first | rfl | (simp only [xports, xport]; rfl)) (c_ContainsFunc_O t 229 [] (fun o => !mayO o) hl (by simp) (fun o _ => c_CheckO o)) rfl ?_
  cases h3 : t.any (fun o => !mayO o) with
  | true =>
    have e : termC t = 1 := by unfold termC; rw [if_pos (.inr (.inr h3))]
    rw [e]
    simp (maxSteps := 2000000) -implicitDefEqProofs only [zz, evop, ev, ofVal, tget, tput, ok, V.isUndef, Ch.on, told, xport, resOf, resV, resVs, ↓reduceIte, Nat.reduceLT, Nat.reduceEqDiff]
  | false =>
    simp (maxSteps := 2000000) -implicitDefEqProofs only [zz, evop, ev, tget, tput, ok, V.isUndef, Ch.on, calleeOf, withArgs, told, ↓reduceIte, reduceCtorEq, Nat.reduceLT, Nat.reduceEqDiff]
    refine acall_flat (by first | rfl | (simp only [xports, xport, hget]; rfl)) (c_walk t hl) rfl ?_
    try simp (maxSteps := 2000000) -implicitDefEqProofs only [zz, evop, ev, ofVal, tget, tput, ok, V.isUndef, intBin, Ch.on, told, xport, resOf, resV, resVs, ↓reduceIte, Nat.reduceLT, Nat.reduceEqDiff, nilTest]
    have e : termC t = if (walkR t).1 = 1 then 0 else 2 := by
      unfold termC
      rw [if_neg]
      rintro (h | h | h)
      · omega
      · omega
      · rw [h3] at h; cases h
    rw [e]
    by_cases h4 : (walkR t).1 = 1
    · have e4 : ((walkR t).1 != 1) = false := by simpa using h4
      rw [if_pos h4]
      simp (maxSteps := 2000000) -implicitDefEqProofs only [zz, ↓reduceIte, e4]
    · have e4 : ((walkR t).1 != 1) = true := by simpa using h4
      rw [if_neg h4]
      simp (maxSteps := 2000000) -implicitDefEqProofs only [↓reduceIte, e4]
end Go.Proofs.YtjhfpabldidlgaaGreat.AM

/- Cells, once more; what is told of a term. -/
set_option linter.all false
set_option maxRecDepth 100000
set_option maxHeartbeats 8000000
namespace Go.Proofs.YtjhfpabldidlgaaGreat.AM
open Go Go.RowKit

def heapGet (h : List (Bool × Int)) (c : Int) : Int × Int := if heapR h = true then (if thereB h c = true then (((h[c.toNat]?).getD (false, 0)).2, 0) else (0, 3)) else (0, 1)
theorem thereB_get {h : List (Bool × Int)} {c : Int} (ht : thereB h c = true) : ∃ k : Nat, ∃ v : Int, c = k ∧ k < h.length ∧ h[k]? = some (true, v) := by
  simp only [thereB, Bool.and_eq_true, decide_eq_true_eq] at ht
  obtain ⟨⟨h1, h2⟩, h3⟩ := ht
  have hk : c.toNat < h.length := by omega
  rw [List.getElem?_eq_getElem hk] at h3
  refine ⟨c.toNat, h[c.toNat].2, by omega, hk, ?_⟩
  rw [List.getElem?_eq_getElem hk]
  simp only [Option.getD_some] at h3
  rw [← h3]

theorem c_heap_Get (h : List (Bool × Int)) (c : Int) (hl : h.length ≤ 1000000) : CSpec Tryz.prog 167 [.vec (h.map dC), .int .i64 c] (.tuple [.int .i64 (heapGet h c).1, .int .i64 (heapGet h c).2]) := by
  refine CSpec.of_awp envOf_ok hmix Tryz.func167 rfl (fun args w => Tryz.call167 args w) (by simp [Tryz.f167]) ?_
  simp only [Tryz.f167]
  simp (maxSteps := 2000000) -implicitDefEqProofs only [zz, evop, ev, ofVal, tget, tput, ok, V.isUndef, initT, Ch.on, calleeOf, withArgs, ↓reduceIte, reduceCtorEq, Nat.reduceLT]
  refine acall_flat (by first | rfl | (simp only [xports, xport, hget]; rfl)) (c_heap_Right h) rfl ?_
  try simp (maxSteps := 2000000) -implicitDefEqProofs only [zz, evop, ev, ofVal, tget, tput, ok, V.isUndef, Ch.on, calleeOf, withArgs, told, xport, xports, resOf, resV, resVs, ↓reduceIte, reduceCtorEq, Nat.reduceLT, Nat.reduceEqDiff]
  cases hr : heapR h with
  | false =>
    simp (maxSteps := 2000000) -implicitDefEqProofs only [zz, ↓reduceIte]
    simp [heapGet, hr]
  | true =>
    simp (maxSteps := 2000000) -implicitDefEqProofs only [zz, ↓reduceIte]
    refine acall_flat (by first | rfl | (simp only [xports, xport, hget]; rfl)) (c_there h c hl) rfl ?_
    try simp (maxSteps := 2000000) -implicitDefEqProofs only [zz, zE, evop, ev, ofVal, tget, tput, ok, V.isUndef, Ch.on, told, xport, xports, D.cells, resOf, resV, resVs, ↓reduceIte, reduceCtorEq, Nat.reduceLT, Nat.reduceEqDiff]
    cases ht : thereB h c with
    | false =>
      simp (maxSteps := 2000000) -implicitDefEqProofs only [zz, ↓reduceIte]
      simp [heapGet, hr, ht]
    | true =>
      obtain ⟨k, v, rfl, hk, hx⟩ := thereB_get ht
      simp (maxSteps := 2000000) -implicitDefEqProofs only [zz, zE, evop, ev, ofVal, tget, tput, ok, V.isUndef, Ch.on, xport, xports, D.cells, loadD, structAt, resOf, resV, resVs, ↓reduceIte, reduceCtorEq, Nat.reduceLT, Nat.reduceEqDiff, Nat.reduceAdd, dC, List.getElem?_map, hx, Option.map_some, Int.natCast_nonneg]
      simp [heapGet, hr, ht, hx]

theorem c_r02_Right (h : List (Bool × Int)) (hl : h.length ≤ 1000000) : CSpec Tryz.prog 65 [.vec (h.map dC)] (.bool (heapR h)) := by
  refine CSpec.of_awp envOf_ok hmix Tryz.func65 rfl (fun args w => Tryz.call65 args w) (by simp [Tryz.f65]) ?_
  simp only [Tryz.f65]
  simp (maxSteps := 2000000) -implicitDefEqProofs only [zz, evop, ev, ofVal, tput, ok, V.isUndef, initT, Ch.on, ↓reduceIte, Nat.reduceLT]
  refine wloop_ind (σ := Nat) (fun i => h.length - i) (fun i => [(3, .d (.int .i64 i)), (0, .d (.vec (h.map dC)))]) (fun _ => []) (fun i => i ≤ h.length ∧ ∀ j < i, ∀ x, h[j]? = some x → wrongC x = false) 0 ⟨Nat.zero_le _, fun j hj => by omega⟩ (Weak.sub (by simp [tget])) ?_
  rintro i ⟨hi, hb⟩
  rcases Nat.lt_or_ge i h.length with hlt | hge
  · have hx : h[i]? = some h[i] := List.getElem?_eq_getElem hlt
    have h' : ((i : Int) < (h.length : Int)) := by omega
    have hw : IntKind.i64.wrap ((i : Int) + 1) = ((i + 1 : Nat) : Int) := by rw [wrap_in (by omega)]; omega
    have bad : wrongC h[i] = true → heapR h = false := fun hc => by
      have : h.any wrongC = true := List.any_eq_true.2 ⟨_, List.getElem_mem hlt, hc⟩
      simp [heapR, this]
    have good : wrongC h[i] = false → ∀ j < i + 1, ∀ x, h[j]? = some x → wrongC x = false := fun hc j hj x hxj => by
      by_cases e : j = i
      · subst e; rw [hx] at hxj; cases hxj; exact hc
      · exact hb j (by omega) x hxj
    simp (maxSteps := 2000000) -implicitDefEqProofs only [zz, zE, evop, ev, tget, tput, ok, V.isUndef, intBin, Ch.on, calleeOf, withArgs, told, D.cells, loadD, structAt, sliceOf, lenOf, ↓reduceIte, reduceCtorEq, Nat.reduceLT, Nat.reduceEqDiff, Nat.reduceAdd, nilTest, dC, h', List.getElem?_map, hx, Option.map_some, Int.natCast_nonneg]
    refine acall_flat (by first | rfl | (simp only [xports, xport, hget]; rfl)) (c_r01_Right h[i].2) rfl ?_
    try simp (maxSteps := 2000000) -implicitDefEqProofs only [zz, zE, evop, ev, ofVal, tget, tput, ok, V.isUndef, guardOf, Ch.on, told, xport, D.cells, resOf, resV, resVs, ↓reduceIte, reduceCtorEq, Nat.reduceLT, Nat.reduceEqDiff]
    cases hs : spanR h[i].2 with
    | false =>
      simp (maxSteps := 2000000) -implicitDefEqProofs only [zz, ↓reduceIte]
      rw [bad (by simp [wrongC, hs])]
    | true =>
      cases hv : h[i].1 with
      | true =>
        simp (maxSteps := 2000000) -implicitDefEqProofs only [zz, zE, evop, ev, ofVal, tget, tput, ok, V.isUndef, intBin, guardOf, Ch.on, told, D.cells, loadD, structAt, ↓reduceIte, reduceCtorEq, Nat.reduceLT, Nat.reduceEqDiff, Nat.reduceAdd, nilTest, dC, hv, hw, List.getElem?_map, hx, Option.map_some, Int.natCast_nonneg]
        exact ⟨i + 1, ⟨hlt, good (by simp [wrongC, hs, hv])⟩, by omega, Weak.sub (by simp [tget])⟩
      | false =>
        cases hz : (h[i].2 != 0) with
        | true =>
          simp (maxSteps := 2000000) -implicitDefEqProofs only [zz, zE, evop, ev, ofVal, tget, tput, ok, V.isUndef, intBin, guardOf, Ch.on, told, xport, D.cells, loadD, structAt, resOf, resV, resVs, ↓reduceIte, reduceCtorEq, Nat.reduceLT, Nat.reduceEqDiff, Nat.reduceAdd, nilTest, dC, hv, hz, List.getElem?_map, hx, Option.map_some, Int.natCast_nonneg]
          rw [bad (by simp [wrongC, hs, hv, hz])]
        | false =>
          simp (maxSteps := 2000000) -implicitDefEqProofs only [zz, zE, evop, ev, ofVal, tget, tput, ok, V.isUndef, intBin, guardOf, Ch.on, told, D.cells, loadD, structAt, ↓reduceIte, reduceCtorEq, Nat.reduceLT, Nat.reduceEqDiff, Nat.reduceAdd, nilTest, dC, hv, hw, hz, List.getElem?_map, hx, Option.map_some, Int.natCast_nonneg]
          exact ⟨i + 1, ⟨hlt, good (by simp [wrongC, hs, hv, hz])⟩, by omega, Weak.sub (by simp [tget])⟩
  · have h' : ¬ ((i : Int) < (h.length : Int)) := by omega
    have hany : h.any wrongC = false := by
      rw [List.any_eq_false]
      intro x hx
      obtain ⟨j, hj, rfl⟩ := List.getElem_of_mem hx
      have := hb j (by omega) _ (List.getElem?_eq_getElem hj)
      simp [this]
    by_cases h0 : (h.length : Int) > 0
    · simp (maxSteps := 2000000) -implicitDefEqProofs only [zz, zE, evop, ev, ofVal, tget, tput, ok, V.isUndef, intBin, guardOf, Ch.on, told, xport, sliceOf, lenOf, resOf, resV, resVs, ↓reduceIte, reduceCtorEq, Nat.reduceLT, Nat.reduceEqDiff, nilTest, h', h0]
      congr 2
      rw [Bool.eq_iff_iff]; simp [heapR, hany]; omega
    · simp (maxSteps := 2000000) -implicitDefEqProofs only [zz, zE, evop, ev, ofVal, tget, tput, ok, V.isUndef, intBin, guardOf, Ch.on, told, xport, sliceOf, lenOf, resOf, resV, resVs, ↓reduceIte, reduceCtorEq, Nat.reduceLT, Nat.reduceEqDiff, nilTest, h', h0]
      congr 2
      rw [Bool.eq_iff_iff]; simp [heapR, hany]; omega

theorem c_r02_Live (h : List (Bool × Int)) (c : Int) (hl : h.length ≤ 1000000) : CSpec Tryz.prog 70 [.vec (h.map dC), .int .i64 c] (.bool (thereB h c)) := by
  refine CSpec.of_awp envOf_ok hmix Tryz.func70 rfl (fun args w => Tryz.call70 args w) (by simp [Tryz.f70]) ?_
  simp only [Tryz.f70]
  simp (maxSteps := 2000000) -implicitDefEqProofs only [zz, evop, ev, ofVal, tput, ok, V.isUndef, initT, Ch.on, ↓reduceIte, Nat.reduceLT]
  refine wloop_ind (σ := Nat) (fun i => h.length - i) (fun i => [(5, .d (.int .i64 i)), (0, .d (.vec (h.map dC))), (1, .d (.int .i64 c))]) (fun _ => []) (fun i => i ≤ h.length ∧ ∀ j < i, (j : Int) ≠ c) 0 ⟨Nat.zero_le _, fun j hj => by omega⟩ (Weak.sub (by simp [tget])) ?_
  rintro i ⟨hi, hb⟩
  rcases Nat.lt_or_ge i h.length with hlt | hge
  · have hx : h[i]? = some h[i] := List.getElem?_eq_getElem hlt
    have h' : ((i : Int) < (h.length : Int)) := by omega
    have hw : IntKind.i64.wrap ((i : Int) + 1) = ((i + 1 : Nat) : Int) := by rw [wrap_in (by omega)]; omega
    by_cases hc : (i : Int) = c
    · have e : ((i : Int) == c) = true := by simpa using hc
      simp (maxSteps := 2000000) -implicitDefEqProofs only [zz, zE, evop, ev, tget, tput, ok, V.isUndef, intBin, Ch.on, told, xport, D.cells, loadD, structAt, sliceOf, lenOf, resOf, resV, resVs, ↓reduceIte, reduceCtorEq, Nat.reduceLT, Nat.reduceEqDiff, Nat.reduceAdd, nilTest, dC, h', e, List.getElem?_map, hx, Option.map_some, Int.natCast_nonneg]
      subst hc
      simp [thereB, hx, hlt]
    · have e : ((i : Int) == c) = false := by simpa using hc
      simp (maxSteps := 2000000) -implicitDefEqProofs only [zz, zE, evop, ev, ofVal, tget, tput, ok, V.isUndef, intBin, Ch.on, told, sliceOf, lenOf, ↓reduceIte, reduceCtorEq, Nat.reduceLT, Nat.reduceEqDiff, nilTest, h', e, hw]
      refine ⟨i + 1, ⟨hlt, fun j hj => ?_⟩, by omega, Weak.sub (by simp [tget])⟩
      by_cases ej : j = i
      · subst ej; exact hc
      · exact hb j (by omega)
  · have h' : ¬ ((i : Int) < (h.length : Int)) := by omega
    simp (maxSteps := 2000000) -implicitDefEqProofs only [zz, zE, evop, ev, ofVal, tget, tput, ok, V.isUndef, intBin, Ch.on, told, xport, sliceOf, lenOf, resOf, resV, resVs, ↓reduceIte, reduceCtorEq, Nat.reduceLT, Nat.reduceEqDiff, nilTest, h']
    congr 2
    symm
    rw [Bool.eq_false_iff]
    intro ht
    obtain ⟨k, v, hk, hkl, _⟩ := thereB_get ht
    exact hb k (by omega) hk.symm

end Go.Proofs.YtjhfpabldidlgaaGreat.AM

/- What is told of a term: the program's way. -/
set_option linter.all false
set_option maxRecDepth 100000
set_option maxHeartbeats 8000000
namespace Go.Proofs.YtjhfpabldidlgaaGreat.AM
open Go Go.RowKit

def leafT (h : List (Bool × Int)) (regs : List Int) (o : Int × Int) : Int × Int :=
  if o.1 = 1 then (o.2, 0) else if o.1 = 2 then heapGet h o.2 else if (regs.length : Int) ≤ o.2 then (0, 3) else (w32 (regs.getD o.2.toNat 0), 0)
theorem c_leaf (h : List (Bool × Int)) (regs : List Int) (o : Int × Int) (hl : h.length ≤ 1000000) (h0 : o.1 ≠ 1 → 0 ≤ o.2) :
    CSpec Tryz.prog 215 [dW o, .vec (h.map dC), .vec (regs.map dI)] (.tuple [.int .i64 (leafT h regs o).1, .int .i64 (leafT h regs o).2]) := by
  refine CSpec.of_awp envOf_ok hmix Tryz.func215 rfl (fun args w => Tryz.call215 args w) (by simp [Tryz.f215]) ?_
  simp only [Tryz.f215]
  simp (maxSteps := 2000000) -implicitDefEqProofs only [zz, zE, evop, ev, ofVal, tget, tput, ok, V.isUndef, intBin, initT, Ch.on, calleeOf, withArgs, told, xport, xports, hget, hput, V.cells, D.cells, structAt, sliceOf, Blk.width, lenOf, resOf, resV, resVs, ↓reduceIte, reduceCtorEq, Nat.reduceLT, Nat.reduceEqDiff, Nat.reduceAdd, nilTest, dW]
  unfold leafT
  by_cases h1 : o.1 = 1
  · have e : (o.1 == 1) = true := by simpa using h1
    rw [if_pos h1]
    simp (maxSteps := 2000000) -implicitDefEqProofs only [↓reduceIte, e]
  have e1 : (o.1 == 1) = false := by simpa using h1
  rw [if_neg h1]
  by_cases h2 : o.1 = 2
  · have e : (o.1 == 2) = true := by simpa using h2
    rw [if_pos h2]
    simp (maxSteps := 2000000) -implicitDefEqProofs only [zz, ↓reduceIte, e1, e]
    refine acall_flat (by first | rfl | (simp only [xports, xport, hget]; rfl)) (c_heap_Get h o.2 hl) rfl ?_
    try simp (maxSteps := 2000000) -implicitDefEqProofs only [zz, evop, ev, tget, tput, ok, V.isUndef, Ch.on, xport, xports, resOf, resV, resVs, ↓reduceIte, Nat.reduceLT, Nat.reduceEqDiff]
  have e2 : (o.1 == 2) = false := by simpa using h2
  rw [if_neg h2]
  by_cases h3 : o.2 ≥ (regs.length : Int)
  · rw [if_pos h3]
    simp (maxSteps := 2000000) -implicitDefEqProofs only [zz, ↓reduceIte, e1, e2, h3]
  · rw [if_neg h3]
    have hx : regs[o.2.toNat]? = some (regs.getD o.2.toNat 0) := by rw [List.getD_eq_getElem?_getD, List.getElem?_eq_getElem (show o.2.toNat < regs.length by have := h0 h1; omega)]; rfl
    simp (maxSteps := 2000000) -implicitDefEqProofs only [zz, zE, evop, ev, tget, tput, ok, Ch.on, calleeOf, withArgs, D.cells, loadD, ↓reduceIte, Nat.reduceLT, dI, e1, e2, h3, List.getElem?_map, hx, Option.map_some]
    refine ⟨h0 h1, ?_⟩
    refine acall_flat (by first | rfl | (simp only [xports, xport, hget]; rfl)) (c_Wrap _) rfl ?_
    try simp (maxSteps := 2000000) -implicitDefEqProofs only [zz, evop, ev, ofVal, tget, tput, ok, V.isUndef, Ch.on, xport, xports, resOf, resV, resVs, ↓reduceIte, Nat.reduceLT, Nat.reduceEqDiff]

/-- What one operation tells of what is piled up. -/
def opV (h : List (Bool × Int)) (regs : List Int) (o : Int × Int) (p : List Int) : Int × Int :=
  if takesO o = 0 then leafT h regs o else if takesO o = 1 then (tr (p.getD (p.length - 1) 0 == 0), 0) else (twoT o.1 (p.getD (p.length - 2) 0) (p.getD (p.length - 1) 0), 0)
def evalS (h : List (Bool × Int)) (regs : List Int) : List (Int × Int) → List Int → List Int × Int
  | [], p => (p, 0)
  | o :: t, p => if (opV h regs o p).2 = 0 then evalS h regs t (p.take (p.length - (takesO o).toNat) ++ [(opV h regs o p).1]) else ([], (opV h regs o p).2)
def evalT (h : List (Bool × Int)) (regs : List Int) (t : List (Int × Int)) : Int × Int :=
  if termC t = 0 then (if heapR h = true then (if (evalS h regs t []).2 = 0 then ((evalS h regs t []).1.getD 0 0, 0) else (0, (evalS h regs t []).2)) else (0, 1)) else (0, termC t)

theorem evalS_pos {h : List (Bool × Int)} {regs : List Int} {o : Int × Int} {t : List (Int × Int)} {p : List Int} (h0 : (opV h regs o p).2 = 0) : evalS h regs (o :: t) p = evalS h regs t (p.take (p.length - (takesO o).toNat) ++ [(opV h regs o p).1]) := by
  rw [evalS, if_pos h0]
theorem evalS_neg {h : List (Bool × Int)} {regs : List Int} {o : Int × Int} {t : List (Int × Int)} {p : List Int} (h0 : (opV h regs o p).2 ≠ 0) : evalS h regs (o :: t) p = ([], (opV h regs o p).2) := by
  rw [evalS, if_neg h0]
theorem evalS_snoc (h : List (Bool × Int)) (regs : List Int) : ∀ (t : List (Int × Int)) (o : Int × Int) (p : List Int), (evalS h regs t p).2 = 0 → evalS h regs (t ++ [o]) p = evalS h regs [o] (evalS h regs t p).1
  | [], o, p, _ => rfl
  | a :: t, o, p, he => by
    by_cases h0 : (opV h regs a p).2 = 0
    · rw [evalS_pos h0] at he ⊢
      rw [List.cons_append, evalS_pos h0]
      exact evalS_snoc h regs t o _ he
    · rw [evalS_neg h0] at he; exact absurd he h0
theorem evalS_fail (h : List (Bool × Int)) (regs : List Int) : ∀ (t r : List (Int × Int)) (p : List Int), (evalS h regs t p).2 ≠ 0 → evalS h regs (t ++ r) p = evalS h regs t p
  | [], r, p, he => by simp [evalS] at he
  | a :: t, r, p, he => by
    simp only [List.cons_append, evalS] at he ⊢
    split at he
    · rename_i h0
      rw [if_pos h0, if_pos h0]
      exact evalS_fail h regs t r _ he
    · rename_i h0
      rw [if_neg h0, if_neg h0]
theorem evalS_len (h : List (Bool × Int)) (regs : List Int) : ∀ (t : List (Int × Int)) (p : List Int) (m : Int), walkN t p.length = some m → (evalS h regs t p).2 = 0 → ((evalS h regs t p).1.length : Int) = m
  | [], p, m, hw, _ => by simp [walkN] at hw; simp [evalS, hw]
  | o :: t, p, m, hw, he => by
    simp only [walkN] at hw
    simp only [evalS] at he ⊢
    have := takesO_rng o
    split at hw
    · cases hw
    · split at he
      · rename_i h0
        rw [if_pos h0]
        refine evalS_len h regs t _ m ?_ he
        rw [← hw]; congr 1
        simp; omega
      · rename_i h0; exact absurd he h0
theorem walkN_app : ∀ (a b : List (Int × Int)) (n m : Int), walkN (a ++ b) n = some m → ∃ k, walkN a n = some k ∧ walkN b k = some m
  | [], b, n, m, h => ⟨n, rfl, h⟩
  | o :: a, b, n, m, h => by
    simp only [List.cons_append, walkN] at h ⊢
    split at h
    · cases h
    · rename_i hh
      rw [if_neg hh]
      exact walkN_app a b _ m h

theorem termC_0 {t : List (Int × Int)} (h : termC t = 0) : 1 ≤ t.length ∧ t.length ≤ 12 ∧ (∀ o ∈ t, mayO o = true) ∧ walkN t 0 = some 1 := by
  unfold termC at h
  split at h
  · cases h
  · rename_i h1
    simp only [not_or] at h1
    obtain ⟨g1, g2, g3⟩ := h1
    split at h
    · rename_i h2
      refine ⟨by omega, by omega, fun o ho => ?_, ?_⟩
      · rw [Bool.not_eq_true, List.any_eq_false] at g3
        have := g3 o ho
        simpa using this
      · unfold walkR at h2
        cases hw : walkN t 0 with
        | none => rw [hw] at h2; simp at h2
        | some n => rw [hw] at h2; simp at h2; rw [h2]
    · cases h
theorem mayO_leaf {o : Int × Int} (h : mayO o = true) (h0 : takesO o = 0) : o.1 ≠ 1 → 0 ≤ o.2 := by
  intro h1
  unfold mayO at h
  rw [if_neg h1] at h
  split at h
  · simp at h; exact h.1
  · split at h
    · simp at h; exact h.1
    · rw [h0] at h; simp at h

theorem c_Eval (h : List (Bool × Int)) (regs : List Int) (t : List (Int × Int)) (hl : h.length ≤ 1000000) (htl : t.length ≤ 1000000) :
    CSpec Tryz.prog 172 [.vec (t.map dW), .vec (h.map dC), .vec (regs.map dI)] (.tuple [.int .i64 (evalT h regs t).1, .int .i64 (evalT h regs t).2]) := by
  refine CSpec.of_awp envOf_ok hmix Tryz.func172 rfl (fun args w => Tryz.call172 args w) (by simp [Tryz.f172]) ?_
  simp only [Tryz.f172]
  simp (maxSteps := 2000000) -implicitDefEqProofs only [zz, evop, ev, ofVal, tget, tput, ok, V.isUndef, initT, Ch.on, calleeOf, withArgs, ↓reduceIte, reduceCtorEq, Nat.reduceLT, Nat.reduceAdd]
  refine acall_flat (by first | rfl | (simp only [xports, xport, hget]; rfl)) (c_term_Check t htl) rfl ?_
  try simp (maxSteps := 2000000) -implicitDefEqProofs only [zz, evop, ev, ofVal, tget, tput, ok, V.isUndef, intBin, Ch.on, calleeOf, withArgs, told, xport, xports, resOf, resV, resVs, ↓reduceIte, reduceCtorEq, Nat.reduceLT, Nat.reduceEqDiff, nilTest]
  by_cases hc : termC t = 0
  case neg =>
    have e : (termC t != 0) = true := by simpa using hc
    simp (maxSteps := 2000000) -implicitDefEqProofs only [↓reduceIte, e]
    simp [evalT, hc]
  have e : (termC t != 0) = false := by simpa using hc
  simp (maxSteps := 2000000) -implicitDefEqProofs only [zz, ↓reduceIte, e]
  refine acall_flat (by first | rfl | (simp only [xports, xport, hget]; rfl)) (c_heap_Right h) rfl ?_
  try simp (maxSteps := 2000000) -implicitDefEqProofs only [zz, zE, evop, ev, ofVal, tget, tput, ok, V.isUndef, Ch.on, told, xport, xports, sliceOf, lenOf, resOf, resV, resVs, ↓reduceIte, reduceCtorEq, Nat.reduceLT, Nat.reduceEqDiff]
  cases hr : heapR h with
  | false =>
    simp (maxSteps := 2000000) -implicitDefEqProofs only [zz, ↓reduceIte]
    simp [evalT, hc, hr]
  | true =>
  obtain ⟨t1, t2, t3, t4⟩ := termC_0 hc
  simp (maxSteps := 2000000) -implicitDefEqProofs only [zz, ↓reduceIte]
  refine wloop_ind (σ := Nat × List Int) (fun s => t.length - s.1) (fun s => [(25, .d (.int .i64 s.1)), (24, .d (.int .i64 t.length)), (23, .d (.vec (t.map dW))), (9, .own 0 0 s.2.length), (1, .d (.vec (h.map dC))), (2, .d (.vec (regs.map dI)))]) (fun s => [.dat false 1 (s.2.map dI)]) (fun s => s.1 ≤ t.length ∧ evalS h regs (t.take s.1) [] = (s.2, 0)) (0, []) ⟨Nat.zero_le _, rfl⟩ ?_ ?_
  · refine Weak.pick [7] (by simp) (by simp) rfl (fun q hq => ?_) (fun i hi => ?_)
    · simp only [List.mem_cons, List.not_mem_nil, or_false] at hq
      rcases hq with rfl | rfl | rfl | rfl | rfl | rfl <;> first | exact .same _ | exact .nils 0 1 rfl
    · obtain rfl : i = 0 := by simpa using hi
      exact .virt 1 rfl rfl
  rintro ⟨i, p⟩ ⟨hi, hp⟩
  simp only at hi hp
  have hsplit : t.take i ++ t.drop i = t := List.take_append_drop i t
  obtain ⟨m, hm1, hm2⟩ := walkN_app (t.take i) (t.drop i) 0 1 (by rw [hsplit]; exact t4)
  have hpl : (p.length : Int) = m := by
    have := evalS_len h regs (t.take i) [] m (by simpa using hm1) (by rw [hp])
    rw [hp] at this; exact this
  have hmr := walkN_rng _ _ _ hm1 (by omega)
  simp only [List.length_take] at hmr
  rcases Nat.lt_or_ge i t.length with hlt | hge
  · have hx : t[i]? = some t[i] := List.getElem?_eq_getElem hlt
    have h' : ((i : Int) < (t.length : Int)) := by omega
    have hw : IntKind.i64.wrap ((i : Int) + 1) = ((i + 1 : Nat) : Int) := by rw [wrap_in (by omega)]; omega
    have htk := takesO_rng t[i]
    have hT : t.take (i + 1) = t.take i ++ [t[i]] := by rw [List.take_add_one, hx]; rfl
    have hen : takesO t[i] ≤ m := by
      rw [List.drop_eq_getElem_cons hlt] at hm2
      simp only [walkN] at hm2
      split at hm2
      · cases hm2
      · omega
    have hsn := evalS_snoc h regs (t.take i) t[i] [] (by rw [hp])
    rw [← hT, hp] at hsn
    obtain ⟨n, hn⟩ : ∃ n : Nat, (n : Int) = (p.length : Int) - takesO t[i] := ⟨((p.length : Int) - takesO t[i]).toNat, by omega⟩
    have w1 : IntKind.i64.wrap ((p.length : Int) - takesO t[i]) = (n : Int) := by rw [wrap_in (by omega)]; omega
    have hmay := t3 t[i] (List.getElem_mem hlt)
    simp (maxSteps := 2000000) -implicitDefEqProofs only [zz, zE, evop, ev, tget, tput, ok, V.isUndef, intBin, Ch.on, calleeOf, withArgs, told, hget, hput, V.cells, D.cells, V.one, loadD, sliceOf, lenOf, splice, ↓reduceIte, Nat.reduceLT, Nat.reduceEqDiff, Nat.reduceAdd, Nat.reduceLeDiff, nilTest, dW, h', List.getElem?_map, hx, Option.map_some, Int.natCast_nonneg]
    refine acall_flat (by first | rfl | (simp only [xports, xport, hget]; rfl)) (c_takes t[i]) rfl ?_
    try simp (maxSteps := 2000000) -implicitDefEqProofs only [zz, zE, evop, ev, ofVal, tget, tput, ok, V.isUndef, intBin, Ch.on, calleeOf, withArgs, hget, ↓reduceIte, Nat.reduceLT, Nat.reduceEqDiff, Nat.reduceAdd, Nat.reduceLeDiff, nilTest]
    rw [w1]
    refine acall_flat (by first | rfl | (simp only [xports, xport, hget]; rfl)) (c_takes t[i]) rfl ?_
    try simp (maxSteps := 2000000) -implicitDefEqProofs only [zz, zE, evop, ev, ofVal, tget, tput, ok, V.isUndef, intBin, Ch.on, calleeOf, withArgs, told, hget, D.cells, loadD, ↓reduceIte, Nat.reduceLT, Nat.reduceEqDiff, Nat.reduceAdd, Nat.reduceLeDiff, nilTest]
    have hone : evalS h regs [t[i]] p = if (opV h regs t[i] p).2 = 0 then (p.take n ++ [(opV h regs t[i] p).1], 0) else ([], (opV h regs t[i] p).2) := by
      have : p.length - (takesO t[i]).toNat = n := by omega
      by_cases h0 : (opV h regs t[i] p).2 = 0
      · rw [evalS_pos h0, if_pos h0, this]; rfl
      · rw [evalS_neg h0, if_neg h0]
    rw [hone] at hsn
    have hnl : n ≤ p.length := by omega
    have fin : ∀ v, (opV h regs t[i] p) = (v, 0) → evalS h regs (t.take (i + 1)) [] = (p.take n ++ [v], 0) := fun v hv => by rw [hsn, hv]; rfl
    have emap : ∀ v, List.take n (List.map dI p) ++ [D.int .i64 v] = (p.take n ++ [v]).map dI := fun v => by simp [dI]
    have elen : ∀ v : Int, (p.take n ++ [v]).length = n + 1 := fun v => by simp; omega
    by_cases k0 : takesO t[i] = 0
    · have e0 : (takesO t[i] == 0) = true := by simpa using k0
      simp (maxSteps := 2000000) -implicitDefEqProofs only [↓reduceIte, e0]
      refine acall_flat (by first | rfl | (simp only [xports, xport, hget]; rfl)) (c_leaf h regs t[i] hl (mayO_leaf hmay k0)) rfl ?_
      try simp (maxSteps := 2000000) -implicitDefEqProofs only [zz, zE, evop, ev, ofVal, tget, tput, ok, V.isUndef, intBin, Ch.on, told, xport, xports, hget, hput, V.cells, D.cells, V.one, V.toD, sliceOf, partsD, bound, elems, lenOf, resOf, resV, resVs, ↓reduceIte, Nat.reduceLT, Nat.reduceEqDiff, Nat.reduceAdd, Nat.reduceMul, Nat.reduceLeDiff, nilTest]
      have hop : opV h regs t[i] p = leafT h regs t[i] := by unfold opV; rw [if_pos k0]
      by_cases hz : (leafT h regs t[i]).2 = 0
      · have ez : ((leafT h regs t[i]).2 != 0) = false := by simpa using hz
        simp (maxSteps := 2000000) -implicitDefEqProofs only [zz, ↓reduceIte, ez, hw, Int.sub_zero]
        refine ⟨⟨by omega, by omega, by omega⟩, ⟨by omega, fun e he => by obtain rfl : e = .int .i64 (leafT h regs t[i]).1 := (by simpa using he); rfl⟩, (i + 1, p.take n ++ [(leafT h regs t[i]).1]), ⟨by simp only; omega, fin _ (by rw [hop]; exact Prod.ext rfl hz)⟩, by simp only; omega, ?_⟩
        simp only [emap, elen]
        refine Weak.pick [3] (by simp) (by simp) rfl (fun q hq => ?_) (fun i hi => ?_)
        · simp only [List.mem_cons, List.not_mem_nil, or_false] at hq
          rcases hq with rfl | rfl | rfl | rfl | rfl | rfl <;> exact .same _
        · obtain rfl : i = 0 := by simpa using hi
          exact .dat false 1 _ rfl rfl
      · have ez : ((leafT h regs t[i]).2 != 0) = true := by simpa using hz
        simp (maxSteps := 2000000) -implicitDefEqProofs only [↓reduceIte, ez]
        have : evalS h regs t [] = ([], (leafT h regs t[i]).2) := by
          rw [hop, if_neg hz] at hsn
          have hf := evalS_fail h regs (t.take (i + 1)) (t.drop (i + 1)) [] (by rw [hsn]; exact hz)
          rw [List.take_append_drop] at hf
          rw [hf, hsn]
        simp [evalT, hc, hr, this, hz]
    have e0 : (takesO t[i] == 0) = false := by simpa using k0
    by_cases k1 : takesO t[i] = 1
    · have e1 : (takesO t[i] == 1) = true := by simpa using k1
      have g1 : p[n]? = some (p.getD n 0) := by rw [List.getD_eq_getElem?_getD, List.getElem?_eq_getElem (show n < p.length by omega)]; rfl
      have hop : opV h regs t[i] p = (tr (p.getD n 0 == 0), 0) := by
        unfold opV; rw [if_neg k0, if_pos k1]
        have : p.length - 1 = n := by omega
        rw [this]
      simp (maxSteps := 2000000) -implicitDefEqProofs only [zz, evop, ev, ofVal, tget, tput, intBin, Ch.on, calleeOf, withArgs, ↓reduceIte, Nat.reduceLT, nilTest, dI, e0, e1, List.getElem?_map, g1, Option.map_some, Int.natCast_nonneg]
      refine ⟨by omega, ?_⟩
      refine acall_flat (by first | rfl | (simp only [xports, xport, hget]; rfl)) (c_Truth _) rfl ?_
      try simp (maxSteps := 2000000) -implicitDefEqProofs only [zz, zE, evop, ev, ofVal, tget, tput, ok, V.isUndef, intBin, Ch.on, told, hget, hput, V.cells, D.cells, V.one, V.toD, sliceOf, partsD, bound, elems, lenOf, ↓reduceIte, Nat.reduceLT, Nat.reduceEqDiff, Nat.reduceAdd, Nat.reduceMul, Nat.reduceLeDiff, nilTest]
      simp (maxSteps := 2000000) -implicitDefEqProofs only [zz, hw, Int.sub_zero]
      refine ⟨⟨by omega, by omega⟩, ⟨by omega, fun e he => by obtain rfl : e = .int .i64 (tr (p.getD n 0 == 0)) := (by simpa using he); rfl⟩, (i + 1, p.take n ++ [tr (p.getD n 0 == 0)]), ⟨by simp only; omega, fin _ hop⟩, by simp only; omega, ?_⟩
      simp only [emap, elen]
      refine Weak.pick [3] (by simp) (by simp) rfl (fun q hq => ?_) (fun i hi => ?_)
      · simp only [List.mem_cons, List.not_mem_nil, or_false] at hq
        rcases hq with rfl | rfl | rfl | rfl | rfl | rfl <;> exact .same _
      · obtain rfl : i = 0 := by simpa using hi
        exact .dat false 1 _ rfl rfl
    have e1 : (takesO t[i] == 1) = false := by simpa using k1
    have k2 : takesO t[i] = 2 := by
      unfold takesO at k0 k1 ⊢
      split at k0 <;> rename_i hh
      · rw [if_pos hh]
      · rw [if_neg hh] at k1; split at k0 <;> rename_i h2
        · rw [if_pos h2] at k1; exact absurd rfl k1
        · exact absurd rfl k0
    have g1 : p[n]? = some (p.getD n 0) := by rw [List.getD_eq_getElem?_getD, List.getElem?_eq_getElem (show n < p.length by omega)]; rfl
    have g2 : p[n + 1]? = some (p.getD (n + 1) 0) := by rw [List.getD_eq_getElem?_getD, List.getElem?_eq_getElem (show n + 1 < p.length by omega)]; rfl
    have hop : opV h regs t[i] p = (twoT t[i].1 (p.getD n 0) (p.getD (n + 1) 0), 0) := by
      unfold opV; rw [if_neg k0, if_neg k1]
      have q1 : p.length - 2 = n := by omega
      have q2 : p.length - 1 = n + 1 := by omega
      rw [q1, q2]
    have w2 : IntKind.i64.wrap ((n : Int) + 1) = ((n + 1 : Nat) : Int) := by rw [wrap_in (by omega)]; omega
    simp (maxSteps := 2000000) -implicitDefEqProofs only [zz, ↓reduceIte, e0, e1]
    refine wdraw_plan [⟨[], false, [38, 39, 40, 41, 42, 43, 44, 45, 46], [], false⟩, ⟨[0], false, [38, 39, 40, 41, 42, 43, 44, 45, 46], [], false⟩, ⟨[], false, [36, 37, 39, 42, 43, 44, 45, 46], [0, 1], false⟩, ⟨[], false, [36, 37, 38, 42, 43, 44, 45, 46], [0, 1, 2], false⟩, ⟨[2, 3], false, [36, 37, 42, 43, 44, 45, 46], [0, 1], false⟩, ⟨[2, 3, 4], false, [36, 37, 42, 43, 44, 45, 46], [0, 1], false⟩, ⟨[], false, [36, 37, 38, 39, 40, 41, 43, 44], [0, 1, 2, 3, 4, 5], false⟩, ⟨[], false, [36, 37, 38, 39, 40, 41, 42], [0, 1, 2, 3, 4, 5, 6], false⟩, ⟨[7], false, [36, 37, 38, 39, 40, 41, 42], [0, 1, 2, 3, 4, 5, 6], false⟩, ⟨[6, 7, 8], false, [36, 37, 38, 39, 40, 41], [0, 1, 2, 3, 4, 5], false⟩, ⟨[6, 7, 8, 9], false, [36, 37, 38, 39, 40, 41], [0, 1, 2, 3, 4, 5], false⟩, ⟨[0, 1, 2, 3, 4, 5, 6, 7, 8, 9, 10], true, [], [], false⟩, ⟨[0, 1, 2, 3, 4, 5, 6, 7, 8, 9, 10, 11], true, [], [], false⟩] (by decide) ?_
    simp (maxSteps := 2000000) -implicitDefEqProofs only [zz, zE, evop, ev, ofVal, tget, tput, ok, V.isUndef, intBin, calleeOf, withArgs, hget, hput, V.cells, D.cells, V.isAgg, loadD, structAt, Blk.width, ↓reduceIte, reduceCtorEq, Nat.reduceLT, Nat.reduceEqDiff, Nat.reduceAdd, Nat.reduceLeDiff, dI, w2, List.getElem?_map, g1, g2, Option.map_some, Int.natCast_nonneg]
    refine ⟨by omega, by omega, ?_⟩
    refine acall_flat (by first | rfl | (simp only [xports, xport, hget]; rfl)) (c_two t[i].1 (p.getD n 0) (p.getD (n + 1) 0)) rfl ?_
    try simp (maxSteps := 2000000) -implicitDefEqProofs only [zz, zE, evop, ev, ofVal, tget, tput, ok, V.isUndef, intBin, Ch.on, told, hget, hput, V.cells, D.cells, V.one, V.toD, sliceOf, partsD, bound, elems, lenOf, ↓reduceIte, Nat.reduceLT, Nat.reduceEqDiff, Nat.reduceAdd, Nat.reduceMul, Nat.reduceLeDiff, nilTest]
    simp (maxSteps := 2000000) -implicitDefEqProofs only [zz, hw, Int.sub_zero]
    refine ⟨⟨by omega, by omega⟩, ⟨by omega, fun e he => by obtain rfl : e = .int .i64 (twoT t[i].1 (p.getD n 0) (p.getD (n + 1) 0)) := (by simpa using he); rfl⟩, (i + 1, p.take n ++ [twoT t[i].1 (p.getD n 0) (p.getD (n + 1) 0)]), ⟨by simp only; omega, fin _ hop⟩, by simp only; omega, ?_⟩
    simp only [emap, elen]
    refine Weak.pick [14] (by simp) (by simp) rfl (fun q hq => ?_) (fun i hi => ?_)
    · simp only [List.mem_cons, List.not_mem_nil, or_false] at hq
      rcases hq with rfl | rfl | rfl | rfl | rfl | rfl <;> exact .same _
    · obtain rfl : i = 0 := by simpa using hi
      exact .dat false 1 _ rfl rfl
  · have e : i = t.length := by omega
    subst e
    rw [List.take_length] at hp
    have hn : ¬ ((t.length : Int) < (t.length : Int)) := by omega
    have hm : m = 1 := by
      rw [List.take_length] at hm1
      rw [hm1] at t4; exact Option.some.inj t4
    have h0 : p[0]? = some (p.getD 0 0) := by rw [List.getD_eq_getElem?_getD, List.getElem?_eq_getElem (show 0 < p.length by omega)]; rfl
    simp (maxSteps := 2000000) -implicitDefEqProofs only [zz, zE, evop, ev, ofVal, tget, tput, ok, V.isUndef, intBin, Ch.on, told, xport, xports, hget, D.cells, loadD, resOf, resV, resVs, ↓reduceIte, Nat.reduceLT, Nat.reduceEqDiff, nilTest, dI, hn, List.getElem?_map, h0, Option.map_some]
    exact ⟨⟨by omega, by omega⟩, by simp [evalT, hc, hr, hp]⟩
end Go.Proofs.YtjhfpabldidlgaaGreat.AM

/- Terms by their parts: the document's way is the program's (plain). -/
set_option linter.all false
namespace Go.Proofs.YtjhfpabldidlgaaGreat.AM
open Go

inductive IsStart (t : List (Int × Int)) : Int → Int → Prop
  | neg (k : Int) : k < 0 → IsStart t k (-1)
  | leaf (k : Nat) (o : Int × Int) : t[k]? = some o → o.1 ≤ 3 → IsStart t k k
  | not (k : Nat) (o : Int × Int) (b : Int) : t[k]? = some o → ¬ o.1 ≤ 3 → IsStart t ((k : Int) - 1) b → (b < 0 ∨ o.1 = 11) → IsStart t k b
  | two (k : Nat) (o : Int × Int) (b s : Int) : t[k]? = some o → ¬ o.1 ≤ 3 → IsStart t ((k : Int) - 1) b → ¬ b < 0 → o.1 ≠ 11 → IsStart t (b - 1) s → IsStart t k s

theorem IsStart.rng {t : List (Int × Int)} {k s : Int} (h : IsStart t k s) : -1 ≤ s ∧ (s ≤ k ∨ s = -1) := by
  induction h with
  | neg k h => omega
  | leaf k o h1 h2 => omega
  | not k o b h1 h2 h3 h4 ih => omega
  | two k o b s h1 h2 h3 h4 h5 h6 ih1 ih2 => omega

theorem IsStart.total (t : List (Int × Int)) : ∀ (n : Nat) (k : Int), k < n → k < t.length → ∃ s, IsStart t k s
  | 0, k, h, _ => ⟨_, .neg k (by omega)⟩
  | n + 1, k, h, hl => by
    by_cases h0 : k < 0
    · exact ⟨_, .neg k h0⟩
    obtain ⟨j, rfl⟩ : ∃ j : Nat, k = j := ⟨k.toNat, by omega⟩
    have hx : t[j]? = some t[j] := List.getElem?_eq_getElem (by omega)
    by_cases h3 : t[j].1 ≤ 3
    · exact ⟨_, .leaf j _ hx h3⟩
    obtain ⟨b, hb⟩ := IsStart.total t n ((j : Int) - 1) (by omega) (by omega)
    by_cases hc : b < 0 ∨ t[j].1 = 11
    · exact ⟨_, .not j _ b hx h3 hb hc⟩
    · have hr := hb.rng
      obtain ⟨s, hs⟩ := IsStart.total t n (b - 1) (by omega) (by omega)
      exact ⟨_, .two j _ b s hx h3 hb (by omega) (by omega) hs⟩

/-- The part of a term from one place up to behind another one. -/
def seg (t : List (Int × Int)) (s k : Nat) : List (Int × Int) := (t.drop s).take (k - s)
theorem seg_app {t : List (Int × Int)} {a b c : Nat} (h1 : a ≤ b) (h2 : b ≤ c) : seg t a c = seg t a b ++ seg t b c := by
  unfold seg
  have e : c - a = (b - a) + (c - b) := by omega
  rw [e, List.take_add, List.drop_drop]
  have : a + (b - a) = b := by omega
  rw [this]
theorem seg_one {t : List (Int × Int)} {k : Nat} {o : Int × Int} (h : t[k]? = some o) : seg t k (k + 1) = [o] := by
  unfold seg
  obtain ⟨hk, rfl⟩ := List.getElem?_eq_some_iff.1 h
  rw [List.drop_eq_getElem_cons hk, show k + 1 - k = 1 by omega]
  rfl
theorem seg_zero (t : List (Int × Int)) (k : Nat) : seg t 0 k = t.take k := by simp [seg]
theorem walkN_app' : ∀ (a b : List (Int × Int)) (n k : Int), walkN a n = some k → walkN (a ++ b) n = walkN b k
  | [], b, n, k, h => by simp [walkN] at h; subst h; rfl
  | o :: a, b, n, k, h => by
    simp only [List.cons_append, walkN] at h ⊢
    split at h
    · cases h
    · rename_i hh; rw [if_neg hh]; exact walkN_app' a b _ k h

theorem takes_leaf {o : Int × Int} (h : o.1 ≤ 3) : takesO o = 0 := by unfold takesO; rw [if_neg (by omega), if_neg (by omega)]
theorem takes_not {o : Int × Int} (h : o.1 = 11) : takesO o = 1 := by unfold takesO; rw [if_neg (by omega), if_pos h]
theorem may_top {o : Int × Int} (h : mayO o = true) : 1 ≤ o.1 ∧ o.1 ≤ 11 := by
  unfold mayO at h
  split at h
  · omega
  · split at h
    · omega
    · split at h
      · omega
      · simp only [Bool.and_eq_true, decide_eq_true_eq] at h
        have := h.1
        unfold takesO at this
        split at this
        · omega
        · split at this <;> omega
theorem takes_two {o : Int × Int} (hm : mayO o = true) (h : ¬ o.1 ≤ 3) (h2 : o.1 ≠ 11) : takesO o = 2 := by
  have := may_top hm
  unfold takesO; rw [if_pos (by omega)]

theorem IsStart.walk {t : List (Int × Int)} (hm : ∀ o ∈ t, mayO o = true) {k s : Int} (h : IsStart t k s) : 0 ≤ s → ∀ d, 0 ≤ d → walkN (seg t s.toNat (k.toNat + 1)) d = some (d + 1) := by
  induction h with
  | neg k h => intro h0; omega
  | leaf k o h1 h2 =>
    intro _ d hd
    simp only [Int.toNat_natCast]
    rw [seg_one h1]
    simp only [walkN, takes_leaf h2]
    rw [if_neg (by omega)]; rfl
  | not k o b h1 h2 h3 h4 ih =>
    intro h0 d hd
    have hr := h3.rng
    have e := ih h0 d hd
    have hk : ((k : Int) - 1).toNat + 1 = k := by omega
    rw [hk] at e
    simp only [Int.toNat_natCast]
    rw [seg_app (b := k) (by omega) (by omega), walkN_app' _ _ _ _ e, seg_one h1]
    have ht : takesO o = 1 := takes_not (by omega)
    simp only [walkN, ht]
    rw [if_neg (by omega)]; congr 1; omega
  | two k o b s h1 h2 h3 h4 h5 h6 ih1 ih2 =>
    intro h0 d hd
    have hr := h3.rng
    have hr2 := h6.rng
    have e1 := ih2 h0 d hd
    have e2 := ih1 (by omega) (d + 1) (by omega)
    have hk1 : (b - 1).toNat + 1 = b.toNat := by omega
    have hk2 : ((k : Int) - 1).toNat + 1 = k := by omega
    rw [hk1] at e1
    rw [hk2] at e2
    simp only [Int.toNat_natCast]
    rw [seg_app (b := b.toNat) (by omega) (by omega), walkN_app' _ _ _ _ e1, seg_app (b := k) (by omega) (by omega), walkN_app' _ _ _ _ e2, seg_one h1]
    have ht : takesO o = 2 := takes_two (hm o (List.mem_of_getElem? h1)) h2 h5
    simp only [walkN, ht]
    rw [if_neg (by omega)]; congr 1; omega

theorem walk_pos {t : List (Int × Int)} : ∀ (n : Int) (o : Int × Int) (m : Int), 0 ≤ n → walkN (o :: t) n = some m → 1 ≤ m := by
  induction t with
  | nil =>
    intro n o m h0 h
    simp only [walkN] at h
    split at h
    · cases h
    · have := takesO_rng o
      simp at h; omega
  | cons a t ih =>
    intro n o m h0 h
    simp only [walkN] at h
    split at h
    · cases h
    · have := takesO_rng o
      exact ih (n + (1 - takesO o)) a m (by omega) (by simpa [walkN] using h)
theorem walk_take0 {t : List (Int × Int)} {s : Nat} (hs : s ≤ t.length) (h : walkN (t.take s) 0 = some 0) : s = 0 := by
  cases s with
  | zero => rfl
  | succ s =>
    cases t with
    | nil => simp at hs
    | cons o t =>
      rw [List.take_succ_cons] at h
      have := walk_pos 0 o 0 (by omega) h
      omega

inductive IsVal (t : List (Int × Int)) (h : List (Bool × Int)) (regs : List Int) : Int → Int → Bool → Prop
  | const (k : Nat) (o : Int × Int) : t[k]? = some o → o.1 = 1 → IsVal t h regs k o.2 true
  | cellNo (k : Nat) (o : Int × Int) : t[k]? = some o → o.1 = 2 → thereB h o.2 = false → IsVal t h regs k 0 false
  | cell (k : Nat) (o : Int × Int) : t[k]? = some o → o.1 = 2 → thereB h o.2 = true → IsVal t h regs k (((h[o.2.toNat]?).getD (false, 0)).2) true
  | regNo (k : Nat) (o : Int × Int) : t[k]? = some o → o.1 = 3 → (regs.length : Int) ≤ o.2 → IsVal t h regs k 0 false
  | reg (k : Nat) (o : Int × Int) : t[k]? = some o → o.1 = 3 → 0 ≤ o.2 → ¬ (regs.length : Int) ≤ o.2 → IsVal t h regs k (w32 (regs.getD o.2.toNat 0)) true
  | not (k : Nat) (o : Int × Int) (b : Int) (ok : Bool) : t[k]? = some o → o.1 = 11 → IsVal t h regs ((k : Int) - 1) b ok → IsVal t h regs k (tr (b == 0)) ok
  | two (k : Nat) (o : Int × Int) (b s a : Int) (ok is : Bool) : t[k]? = some o → ¬ o.1 ≤ 3 → o.1 ≠ 11 → IsVal t h regs ((k : Int) - 1) b ok → IsStart t ((k : Int) - 1) s → 0 ≤ s → IsVal t h regs (s - 1) a is → spanR a = true → spanR b = true →
      IsVal t h regs k (twoT o.1 a b) (ok && is)

theorem twoT_span (k a b : Int) : spanR (twoT k a b) = true := by
  unfold twoT
  (repeat' split) <;> first | exact w32_span _ | exact tr_span _

theorem evalS_app (h : List (Bool × Int)) (regs : List Int) : ∀ (a b : List (Int × Int)) (p : List Int), evalS h regs (a ++ b) p = if (evalS h regs a p).2 = 0 then evalS h regs b (evalS h regs a p).1 else evalS h regs a p
  | [], b, p => by simp [evalS]
  | o :: a, b, p => by
    by_cases h0 : (opV h regs o p).2 = 0
    · rw [List.cons_append, evalS_pos h0, evalS_pos h0]; exact evalS_app h regs a b _
    · rw [List.cons_append, evalS_neg h0, evalS_neg h0, if_neg h0]

/-- What stands at a place, of a term that walks well up to there. -/
theorem val_of {t : List (Int × Int)} {h : List (Bool × Int)} {regs : List Int} (hm : ∀ o ∈ t, mayO o = true) (hr : heapR h = true) : ∀ (k : Nat), k < t.length → ∀ n, 0 ≤ n → walkN (t.take (k + 1)) 0 = some (n + 1) →
    ∃ (s : Nat) (v : Int) (ok : Bool), s ≤ k ∧ IsStart t k s ∧ walkN (t.take s) 0 = some n ∧ IsVal t h regs k v ok ∧ spanR v = true ∧ ∀ p, evalS h regs (seg t s (k + 1)) p = if ok = true then (p ++ [v], 0) else ([], 3) := by
  intro k
  induction k using Nat.strongRecOn with
  | _ k ih =>
  intro hk n hn hw
  have hx : t[k]? = some t[k] := List.getElem?_eq_getElem hk
  have hmay := hm _ (List.getElem_mem hk)
  have hT : t.take (k + 1) = t.take k ++ [t[k]] := by rw [List.take_add_one, hx]; rfl
  obtain ⟨m, h1, h2⟩ := walkN_app (t.take k) [t[k]] 0 (n + 1) (by rw [← hT]; exact hw)
  simp only [walkN] at h2
  split at h2
  · cases h2
  rename_i hge
  have h2 : m + (1 - takesO t[k]) = n + 1 := Option.some.inj h2
  have htop := may_top hmay
  by_cases h3 : t[k].1 ≤ 3
  · have ht := takes_leaf h3
    rw [ht] at h2
    have hmn : m = n := by omega
    subst hmn
    have ho : ∀ p, evalS h regs [t[k]] p = if (leafT h regs t[k]).2 = 0 then (p ++ [(leafT h regs t[k]).1], 0) else ([], (leafT h regs t[k]).2) := fun p => by
      have hop : opV h regs t[k] p = leafT h regs t[k] := by unfold opV; rw [if_pos ht]
      by_cases h0 : (opV h regs t[k] p).2 = 0
      · rw [evalS_pos h0, hop, ht]
        rw [hop] at h0
        rw [if_pos h0]; simp [evalS]
      · rw [evalS_neg h0, hop]
        rw [hop] at h0
        rw [if_neg h0]
    have done : ∀ v ok, IsVal t h regs k v ok → spanR v = true → leafT h regs t[k] = (if ok = true then (v, 0) else (0, 3)) → ∃ (s : Nat) (v : Int) (ok : Bool), s ≤ k ∧ IsStart t k s ∧ walkN (t.take s) 0 = some m ∧ IsVal t h regs k v ok ∧ spanR v = true ∧ ∀ p, evalS h regs (seg t s (k + 1)) p = if ok = true then (p ++ [v], 0) else ([], 3) := fun v ok hv hs hl => by
      refine ⟨k, v, ok, Nat.le_refl _, .leaf k _ hx h3, h1, hv, hs, fun p => ?_⟩
      rw [seg_one hx, ho, hl]
      cases ok <;> simp
    by_cases k1 : t[k].1 = 1
    · refine done _ true (.const k _ hx k1) ?_ (by unfold leafT; rw [if_pos k1]; rfl)
      unfold mayO at hmay; rw [if_pos k1] at hmay; exact hmay
    by_cases k2 : t[k].1 = 2
    · cases hth : thereB h t[k].2 with
      | false => exact done 0 false (.cellNo k _ hx k2 hth) (by decide) (by unfold leafT; rw [if_neg k1, if_pos k2]; simp [heapGet, hr, hth])
      | true =>
        refine done _ true (.cell k _ hx k2 hth) ?_ (by unfold leafT; rw [if_neg k1, if_pos k2]; simp [heapGet, hr, hth])
        obtain ⟨j, v, e, hj, hv⟩ := thereB_get hth
        rw [e, Int.toNat_natCast, hv]
        have : wrongC (true, v) = false := by
          simp only [heapR, Bool.and_eq_true, Bool.not_eq_true'] at hr
          exact List.any_eq_false.1 hr.2 _ (List.mem_of_getElem? hv) |> (by simpa using ·)
        simp [wrongC] at this
        exact this
    · have k3 : t[k].1 = 3 := by omega
      by_cases hlen : (regs.length : Int) ≤ t[k].2
      · exact done 0 false (.regNo k _ hx k3 hlen) (by decide) (by unfold leafT; rw [if_neg k1, if_neg k2, if_pos hlen]; rfl)
      · exact done _ true (.reg k _ hx k3 (mayO_leaf hmay ht k1) hlen) (w32_span _) (by unfold leafT; rw [if_neg k1, if_neg k2, if_neg hlen]; rfl)
  · have hk0 : 1 ≤ k := by
      cases k with
      | zero =>
        simp [walkN] at h1
        subst h1
        have : takesO t[0] = 1 ∨ takesO t[0] = 2 := by
          by_cases h11 : t[0].1 = 11
          · exact .inl (takes_not h11)
          · exact .inr (takes_two hmay h3 h11)
        omega
      | succ k => omega
    obtain ⟨j, rfl⟩ : ∃ j, k = j + 1 := ⟨k - 1, by omega⟩
    have ej : (((j + 1 : Nat) : Int) - 1) = (j : Int) := by omega
    by_cases h11 : t[j + 1].1 = 11
    · have ht := takes_not h11
      rw [ht] at h2 hge
      obtain ⟨s, v, ok, g1, g2, g3, g4, g5, g6⟩ := ih j (by omega) (by omega) n hn (by rw [h1]; congr 1; omega)
      refine ⟨s, tr (v == 0), ok, by omega, .not _ _ s hx h3 (by rw [ej]; exact g2) (.inr h11), g3, .not _ _ v ok hx h11 (by rw [ej]; exact g4), tr_span _, fun p => ?_⟩
      rw [seg_app (b := j + 1) (by omega) (by omega), evalS_app, g6, seg_one hx]
      cases ok with
      | false => simp
      | true =>
        simp only [if_true]
        have hop : opV h regs t[j + 1] (p ++ [v]) = (tr (v == 0), 0) := by unfold opV; rw [ht]; simp [List.getD_eq_getElem?_getD]
        rw [evalS_pos (by rw [hop]), hop, ht]
        simp [evalS]
    · have ht := takes_two hmay h3 h11
      rw [ht] at h2 hge
      obtain ⟨b, vb, okb, g1, g2, g3, g4, g5, g6⟩ := ih j (by omega) (by omega) (n + 1) (by omega) (by rw [h1]; congr 1; omega)
      have hb0 : 1 ≤ b := by
        cases b with
        | zero => simp [walkN] at g3; omega
        | succ b => omega
      obtain ⟨i, rfl⟩ : ∃ i, b = i + 1 := ⟨b - 1, by omega⟩
      obtain ⟨s, va, oka, f1, f2, f3, f4, f5, f6⟩ := ih i (by omega) (by omega) n hn g3
      have ei : (((i + 1 : Nat) : Int) - 1) = (i : Int) := by omega
      refine ⟨s, twoT t[j + 1].1 va vb, okb && oka, by omega, .two _ _ ((i + 1 : Nat) : Int) s hx h3 (by rw [ej]; exact g2) (by omega) h11 (by rw [ei]; exact f2), f3, .two _ _ vb ((i + 1 : Nat) : Int) va okb oka hx h3 h11 (by rw [ej]; exact g4) (by rw [ej]; exact g2) (by omega) (by rw [ei]; exact f4) f5 g5, twoT_span _ _ _, fun p => ?_⟩
      rw [seg_app (b := i + 1) (by omega) (by omega), evalS_app, f6]
      cases oka with
      | false => simp
      | true =>
        simp only [if_true]
        rw [seg_app (b := j + 1) (by omega) (by omega), evalS_app, g6, seg_one hx]
        cases okb with
        | false => simp
        | true =>
          simp only [if_true]
          have hop : opV h regs t[j + 1] (p ++ [va] ++ [vb]) = (twoT t[j + 1].1 va vb, 0) := by
            unfold opV; rw [ht]
            simp [List.getD_eq_getElem?_getD]
          rw [evalS_pos (by rw [hop]), hop, ht]
          simp [evalS]

theorem eval_val {t : List (Int × Int)} {h : List (Bool × Int)} {regs : List Int} (hc : termC t = 0) (hr : heapR h = true) : ∃ v ok, IsVal t h regs ((t.length : Int) - 1) v ok ∧ evalT h regs t = (if ok = true then (v, 0) else (0, 3)) := by
  obtain ⟨t1, t2, t3, t4⟩ := termC_0 hc
  have e : t.length - 1 + 1 = t.length := by omega
  obtain ⟨s, v, ok, g1, g2, g3, g4, g5, g6⟩ := val_of (h := h) (regs := regs) t3 hr (t.length - 1) (by omega) 0 (by omega) (by rw [e, List.take_length]; exact t4)
  have hs0 := walk_take0 (by omega) g3
  subst hs0
  have := g6 []
  rw [e, seg_zero, List.take_length] at this
  have ek : ((t.length - 1 : Nat) : Int) = (t.length : Int) - 1 := by omega
  rw [ek] at g4
  refine ⟨v, ok, g4, ?_⟩
  unfold evalT
  rw [if_pos hc, if_pos hr, this]
  cases ok <;> simp
end Go.Proofs.YtjhfpabldidlgaaGreat.AM

/- Terms: the document's way, walked. -/
set_option linter.all false
set_option maxRecDepth 100000
set_option maxHeartbeats 8000000
namespace Go.Proofs.YtjhfpabldidlgaaGreat.AM
open Go Go.RowKit

theorem c_r07_start (t : List (Int × Int)) (hl : t.length ≤ 1000000) {k s : Int} (h : IsStart t k s) (hk : -1 ≤ k ∧ k < t.length) : CSpec Tryz.prog 178 [.vec (t.map dW), .int .i64 k] (.int .i64 s) := by
  induction h with
  | neg k h =>
    refine CSpec.of_awp envOf_ok hmix Tryz.func178 rfl (fun args w => Tryz.call178 args w) (by simp [Tryz.f178]) ?_
    simp only [Tryz.f178]
    simp (maxSteps := 2000000) -implicitDefEqProofs only [zz, zE, evop, ev, ofVal, tget, tput, ok, V.isUndef, intBin, initT, Ch.on, told, xport, D.cells, resOf, resV, resVs, ↓reduceIte, reduceCtorEq, Nat.reduceLT, Nat.reduceEqDiff, Int.reduceNeg, nilTest]
    have h' : k < 0 := h
    simp (maxSteps := 2000000) -implicitDefEqProofs only [↓reduceIte, h']
  | leaf k o h1 h2 =>
    refine CSpec.of_awp envOf_ok hmix Tryz.func178 rfl (fun args w => Tryz.call178 args w) (by simp [Tryz.f178]) ?_
    simp only [Tryz.f178]
    simp (maxSteps := 2000000) -implicitDefEqProofs only [zz, zE, evop, ev, ofVal, tget, tput, ok, V.isUndef, intBin, initT, Ch.on, told, xport, D.cells, resOf, resV, resVs, ↓reduceIte, reduceCtorEq, Nat.reduceLT, Nat.reduceEqDiff, Int.reduceNeg, nilTest]
    have h' : ¬ ((k : Int) < 0) := by omega
    simp (maxSteps := 2000000) -implicitDefEqProofs only [zz, zE, evop, ev, ofVal, tget, tput, ok, V.isUndef, intBin, Ch.on, told, xport, D.cells, loadD, structAt, resOf, resV, resVs, ↓reduceIte, reduceCtorEq, Nat.reduceLT, Nat.reduceEqDiff, Nat.reduceAdd, nilTest, dW, h', List.getElem?_map, h1, Option.map_some, Int.natCast_nonneg, h2]
  | not k o b h1 h2 h3 h4 ih =>
    have hc := ih (by omega)
    have h' : ¬ ((k : Int) < 0) := by omega
    have hw : IntKind.i64.wrap ((k : Int) - 1) = (k : Int) - 1 := by rw [wrap_in (by omega)]
    refine CSpec.of_awp envOf_ok hmix Tryz.func178 rfl (fun args w => Tryz.call178 args w) (by simp [Tryz.f178]) ?_
    simp only [Tryz.f178]
    simp (maxSteps := 2000000) -implicitDefEqProofs only [zz, zE, evop, ev, ofVal, tget, tput, ok, V.isUndef, intBin, initT, Ch.on, told, xport, D.cells, resOf, resV, resVs, ↓reduceIte, reduceCtorEq, Nat.reduceLT, Nat.reduceEqDiff, Int.reduceNeg, nilTest]
    simp (maxSteps := 2000000) -implicitDefEqProofs only [zz, zE, evop, ev, ofVal, tget, tput, ok, V.isUndef, intBin, Ch.on, calleeOf, withArgs, told, D.cells, loadD, structAt, ↓reduceIte, reduceCtorEq, Nat.reduceLT, Nat.reduceEqDiff, Nat.reduceAdd, nilTest, dW, h', List.getElem?_map, h1, Option.map_some, Int.natCast_nonneg, h2, hw]
    refine acall_flat (by first | rfl | (simp only [xports, xport, hget]; rfl)) (hc) rfl ?_
    try simp (maxSteps := 2000000) -implicitDefEqProofs only [zz, zE, evop, ev, ofVal, tget, tput, ok, V.isUndef, intBin, guardOf, Ch.on, told, xport, D.cells, resOf, resV, resVs, ↓reduceIte, reduceCtorEq, Nat.reduceLT, Nat.reduceEqDiff, nilTest]
    by_cases hb : b < 0
    · simp (maxSteps := 2000000) -implicitDefEqProofs only [zz, ↓reduceIte, hb]
    · have e : (o.1 == 11) = true := by have := h4.resolve_left hb; simpa using this
      simp (maxSteps := 2000000) -implicitDefEqProofs only [zz, zE, evop, ev, ofVal, tget, tput, ok, V.isUndef, intBin, guardOf, Ch.on, told, xport, D.cells, loadD, structAt, resOf, resV, resVs, ↓reduceIte, reduceCtorEq, Nat.reduceLT, Nat.reduceEqDiff, Nat.reduceAdd, nilTest, dW, hb, List.getElem?_map, h1, Option.map_some, Int.natCast_nonneg, e]
  | two k o b s h1 h2 h3 h4 h5 h6 ih1 ih2 =>
    have hr := h3.rng
    have hc := ih1 (by omega)
    have hc2 := ih2 (by omega)
    have h' : ¬ ((k : Int) < 0) := by omega
    have hw : IntKind.i64.wrap ((k : Int) - 1) = (k : Int) - 1 := by rw [wrap_in (by omega)]
    have hw2 : IntKind.i64.wrap (b - 1) = b - 1 := by rw [wrap_in (by omega)]
    have e : (o.1 == 11) = false := by simpa using h5
    refine CSpec.of_awp envOf_ok hmix Tryz.func178 rfl (fun args w => Tryz.call178 args w) (by simp [Tryz.f178]) ?_
    simp only [Tryz.f178]
    simp (maxSteps := 2000000) -implicitDefEqProofs only [zz, zE, evop, ev, ofVal, tget, tput, ok, V.isUndef, intBin, initT, Ch.on, told, xport, D.cells, resOf, resV, resVs, ↓reduceIte, reduceCtorEq, Nat.reduceLT, Nat.reduceEqDiff, Int.reduceNeg, nilTest]
    simp (maxSteps := 2000000) -implicitDefEqProofs only [zz, zE, evop, ev, ofVal, tget, tput, ok, V.isUndef, intBin, Ch.on, calleeOf, withArgs, told, D.cells, loadD, structAt, ↓reduceIte, reduceCtorEq, Nat.reduceLT, Nat.reduceEqDiff, Nat.reduceAdd, nilTest, dW, h', List.getElem?_map, h1, Option.map_some, Int.natCast_nonneg, h2, hw]
    refine acall_flat (by first | rfl | (simp only [xports, xport, hget]; rfl)) (hc) rfl ?_
    try simp (maxSteps := 2000000) -implicitDefEqProofs only [zz, zE, evop, ev, ofVal, tget, tput, ok, V.isUndef, intBin, guardOf, Ch.on, told, xport, D.cells, resOf, resV, resVs, ↓reduceIte, reduceCtorEq, Nat.reduceLT, Nat.reduceEqDiff, nilTest]
    simp (maxSteps := 2000000) -implicitDefEqProofs only [zz, zE, evop, ev, ofVal, tget, tput, ok, V.isUndef, intBin, guardOf, Ch.on, calleeOf, withArgs, told, D.cells, loadD, structAt, ↓reduceIte, reduceCtorEq, Nat.reduceLT, Nat.reduceEqDiff, Nat.reduceAdd, nilTest, dW, h4, List.getElem?_map, h1, Option.map_some, Int.natCast_nonneg, e, hw2]
    refine acall_flat (by first | rfl | (simp only [xports, xport, hget]; rfl)) (hc2) rfl ?_
    try simp (maxSteps := 2000000) -implicitDefEqProofs only [zz, evop, ev, tget, tput, ok, V.isUndef, Ch.on, xport, resOf, resV, resVs, ↓reduceIte, Nat.reduceLT]

theorem c_r07_Check (t : List (Int × Int)) (hl : t.length ≤ 1000000) : CSpec Tryz.prog 121 [.vec (t.map dW)] (.int .i64 (termC t)) := by
  refine CSpec.of_awp envOf_ok hmix Tryz.func121 rfl (fun args w => Tryz.call121 args w) (by simp [Tryz.f121]) ?_
  simp only [Tryz.f121]
  simp (maxSteps := 2000000) -implicitDefEqProofs only [zz, zE, evop, ev, ofVal, tget, tput, ok, V.isUndef, intBin, guardOf, initT, Ch.on, told, xport, sliceOf, lenOf, resOf, resV, resVs, ↓reduceIte, reduceCtorEq, Nat.reduceLT, Nat.reduceEqDiff, nilTest]
  by_cases h1 : ((t.length : Int) < 1)
  · have e : termC t = 1 := by unfold termC; rw [if_pos (.inl (by omega))]
    rw [e]
    simp (maxSteps := 2000000) -implicitDefEqProofs only [zz, ↓reduceIte, h1]
  by_cases h2 : ((t.length : Int) > 12)
  · have e : termC t = 1 := by unfold termC; rw [if_pos (.inr (.inl (by omega)))]
    rw [e]
    simp (maxSteps := 2000000) -implicitDefEqProofs only [zz, ↓reduceIte, h1, h2]
  simp (maxSteps := 2000000) -implicitDefEqProofs only [zz, ↓reduceIte, h1, h2]
  refine wloop_ind (σ := Nat) (fun i => t.length - i) (fun i => [(3, .d (.int .i64 i)), (0, .d (.vec (t.map dW)))]) (fun _ => []) (fun i => i ≤ t.length ∧ ∀ j < i, ∀ o, t[j]? = some o → mayO o = true) 0 ⟨Nat.zero_le _, fun j hj => by omega⟩ (Weak.sub (by simp [tget])) ?_
  rintro i ⟨hi, hb⟩
  rcases Nat.lt_or_ge i t.length with hlt | hge
  · have hx : t[i]? = some t[i] := List.getElem?_eq_getElem hlt
    have h' : ((i : Int) < (t.length : Int)) := by omega
    have hw : IntKind.i64.wrap ((i : Int) + 1) = ((i + 1 : Nat) : Int) := by rw [wrap_in (by omega)]; omega
    simp (maxSteps := 2000000) -implicitDefEqProofs only [zz, zE, evop, ev, tget, tput, ok, V.isUndef, intBin, Ch.on, calleeOf, withArgs, told, D.cells, loadD, sliceOf, lenOf, ↓reduceIte, reduceCtorEq, Nat.reduceLT, Nat.reduceEqDiff, Nat.reduceAdd, Nat.reduceLeDiff, nilTest, dW, h', List.getElem?_map, hx, Option.map_some, Int.natCast_nonneg]
    refine acall_flat (by first | rfl | (simp only [xports, xport, hget]; rfl)) (c_r07_one t[i]) rfl ?_
    try simp (maxSteps := 2000000) -implicitDefEqProofs only [zz, evop, ev, ofVal, tget, tput, ok, V.isUndef, intBin, Ch.on, told, xport, resOf, resV, resVs, ↓reduceIte, Nat.reduceLT, Nat.reduceEqDiff, nilTest]
    cases hm : mayO t[i] with
    | false =>
      have e : termC t = 1 := by unfold termC; rw [if_pos (.inr (.inr (List.any_eq_true.2 ⟨_, List.getElem_mem hlt, by simp [hm]⟩)))]
      rw [e]
      simp (maxSteps := 2000000) -implicitDefEqProofs only [zz, ↓reduceIte]
    | true =>
      simp (maxSteps := 2000000) -implicitDefEqProofs only [zz, ↓reduceIte, hw]
      refine ⟨i + 1, ⟨hlt, fun j hj o ho => ?_⟩, by omega, Weak.sub (by simp [tget])⟩
      by_cases ej : j = i
      · subst ej; rw [hx] at ho; cases ho; exact hm
      · exact hb j (by omega) o ho
  · have h' : ¬ ((i : Int) < (t.length : Int)) := by omega
    have hm : ∀ o ∈ t, mayO o = true := fun o ho => by
      obtain ⟨j, hj, rfl⟩ := List.getElem_of_mem ho
      exact hb j (by omega) _ (List.getElem?_eq_getElem hj)
    have e : termC t = if (walkR t).1 = 1 then 0 else 2 := by
      unfold termC
      rw [if_neg]
      rintro (h | h | h)
      · omega
      · omega
      · obtain ⟨o, ho, hn⟩ := List.any_eq_true.1 h
        rw [hm o ho] at hn; simp at hn
    have hw : IntKind.i64.wrap ((t.length : Int) - 1) = (t.length : Int) - 1 := by rw [wrap_in (by omega)]
    rw [e]
    have key : ∃ s, IsStart t ((t.length : Int) - 1) s ∧ (s = 0 ↔ (walkR t).1 = 1) := by
      by_cases hwk : walkN t 0 = some 1
      · have e1 : t.length - 1 + 1 = t.length := by omega
        have hs : ∃ s, IsStart t ((t.length - 1 : Nat) : Int) s ∧ s = 0 := by
          have : ∀ (k : Nat), k < t.length → ∀ n, 0 ≤ n → walkN (t.take (k + 1)) 0 = some (n + 1) → ∃ s : Nat, s ≤ k ∧ IsStart t k s ∧ walkN (t.take s) 0 = some n := fun k hk n hn hw => by
            have hr : heapR [(false, 0)] = true := by decide
            obtain ⟨s, v, ok, q1, q2, q3, _⟩ := val_of (h := [(false, 0)]) (regs := []) hm hr k hk n hn hw
            exact ⟨s, q1, q2, q3⟩
          obtain ⟨s, q1, q2, q3⟩ := this (t.length - 1) (by omega) 0 (by omega) (by rw [e1, List.take_length]; exact hwk)
          have := walk_take0 (by omega) q3
          subst this
          exact ⟨_, q2, rfl⟩
        obtain ⟨s, q1, q2⟩ := hs
        have ek : ((t.length - 1 : Nat) : Int) = (t.length : Int) - 1 := by omega
        rw [ek] at q1
        exact ⟨s, q1, by simp [q2, walkR, hwk]⟩
      · obtain ⟨s, hs⟩ := IsStart.total t t.length ((t.length : Int) - 1) (by omega) (by omega)
        refine ⟨s, hs, fun h0 => ?_, fun h1 => ?_⟩
        · subst h0
          have := hs.walk hm (by omega) 0 (by omega)
          have ek : ((t.length : Int) - 1).toNat + 1 = t.length := by omega
          rw [ek, show (0 : Int).toNat = 0 from rfl, seg_zero, List.take_length] at this
          exact absurd this hwk
        · exfalso
          unfold walkR at h1
          cases hw : walkN t 0 with
          | none => rw [hw] at h1; simp at h1
          | some n => rw [hw] at h1; simp at h1; rw [hw, h1] at hwk; exact hwk rfl
    obtain ⟨s, hs, hiff⟩ := key
    simp (maxSteps := 2000000) -implicitDefEqProofs only [zz, zE, evop, ev, ofVal, tget, tput, ok, V.isUndef, intBin, Ch.on, calleeOf, withArgs, told, sliceOf, lenOf, ↓reduceIte, reduceCtorEq, Nat.reduceLT, Nat.reduceEqDiff, nilTest, h', hw]
    refine acall_flat (by first | rfl | (simp only [xports, xport, hget]; rfl)) (c_r07_start t hl hs (by omega)) rfl ?_
    try simp (maxSteps := 2000000) -implicitDefEqProofs only [zz, evop, ev, ofVal, tget, tput, ok, V.isUndef, intBin, Ch.on, told, xport, resOf, resV, resVs, ↓reduceIte, Nat.reduceLT, nilTest]
    by_cases h0 : s = 0
    · have e1 : (s != 0) = false := by simpa using h0
      rw [if_pos (hiff.1 h0)]
      simp (maxSteps := 2000000) -implicitDefEqProofs only [zz, ↓reduceIte, e1]
    · have e1 : (s != 0) = true := by simpa using h0
      rw [if_neg (fun h => h0 (hiff.2 h))]
      simp (maxSteps := 2000000) -implicitDefEqProofs only [↓reduceIte, e1]

theorem IsVal.rng {t : List (Int × Int)} {h : List (Bool × Int)} {regs : List Int} {k v : Int} {ok : Bool} (hv : IsVal t h regs k v ok) : 0 ≤ k ∧ k < t.length := by
  have key : ∀ (k : Nat) (o : Int × Int), t[k]? = some o → (0 : Int) ≤ k ∧ (k : Int) < t.length := fun k o h => by
    have := (List.getElem?_eq_some_iff.1 h).1; omega
  cases hv with
  | const k o h1 => exact key k o h1
  | cellNo k o h1 => exact key k o h1
  | cell k o h1 => exact key k o h1
  | regNo k o h1 => exact key k o h1
  | reg k o h1 => exact key k o h1
  | not k o b ok h1 => exact key k o h1
  | two k o b s a ok is h1 => exact key k o h1

theorem c_r07_value (t : List (Int × Int)) (h : List (Bool × Int)) (regs : List Int) (hl : t.length ≤ 1000000) (hh : h.length ≤ 1000000) {k v : Int} {kk : Bool} (hv : IsVal t h regs k v kk) :
    CSpec Tryz.prog 122 [.vec (t.map dW), .int .i64 k, .vec (h.map dC), .vec (regs.map dI)] (.tuple [.int .i64 v, .bool kk]) := by
  induction hv with
  | const k o h1 h2 =>
    have e : (o.1 == 1) = true := by simpa using h2
    refine CSpec.of_awp envOf_ok hmix Tryz.func122 rfl (fun args w => Tryz.call122 args w) (by simp [Tryz.f122]) ?_
    simp only [Tryz.f122]
    simp (maxSteps := 2000000) -implicitDefEqProofs only [zz, zE, evop, ev, ofVal, tget, tput, ok, V.isUndef, initT, Ch.on, D.cells, ↓reduceIte, reduceCtorEq, Nat.reduceLT, Nat.reduceEqDiff, Nat.reduceAdd]
    simp (maxSteps := 2000000) -implicitDefEqProofs only [zz, zE, evop, ev, ofVal, tget, tput, ok, V.isUndef, intBin, Ch.on, told, xport, xports, hget, hput, V.cells, D.cells, V.one, loadD, structAt, Blk.width, splice, resOf, resV, resVs, ↓reduceIte, reduceCtorEq, Nat.reduceLT, Nat.reduceEqDiff, Nat.reduceAdd, Nat.reduceLeDiff, nilTest, dW, List.getElem?_map, h1, Option.map_some, Int.natCast_nonneg, e]
  | cellNo k o h1 h2 h3 =>
    have e1 : (o.1 == 1) = false := by simp [h2]
    have e : (o.1 == 2) = true := by simpa using h2
    refine CSpec.of_awp envOf_ok hmix Tryz.func122 rfl (fun args w => Tryz.call122 args w) (by simp [Tryz.f122]) ?_
    simp only [Tryz.f122]
    simp (maxSteps := 2000000) -implicitDefEqProofs only [zz, zE, evop, ev, ofVal, tget, tput, ok, V.isUndef, initT, Ch.on, D.cells, ↓reduceIte, reduceCtorEq, Nat.reduceLT, Nat.reduceEqDiff, Nat.reduceAdd]
    simp (maxSteps := 2000000) -implicitDefEqProofs only [zz, zE, evop, ev, ofVal, tget, tput, ok, V.isUndef, intBin, Ch.on, calleeOf, withArgs, told, hget, hput, V.cells, D.cells, V.one, loadD, structAt, Blk.width, splice, ↓reduceIte, reduceCtorEq, Nat.reduceLT, Nat.reduceEqDiff, Nat.reduceAdd, Nat.reduceLeDiff, nilTest, dW, List.getElem?_map, h1, Option.map_some, Int.natCast_nonneg, e1, e]
    refine acall_flat (by first | rfl | (simp only [xports, xport, hget]; rfl)) (c_r02_Live h o.2 hh) rfl ?_
    try simp (maxSteps := 2000000) -implicitDefEqProofs only [zz, zE, evop, ev, ofVal, tget, tput, ok, V.isUndef, Ch.on, told, xport, xports, hget, D.cells, structAt, Blk.width, resOf, resV, resVs, ↓reduceIte, reduceCtorEq, Nat.reduceLT, Nat.reduceEqDiff, Nat.reduceAdd]
    simp (maxSteps := 2000000) -implicitDefEqProofs only [zz, ↓reduceIte, h3]
  | cell k o h1 h2 h3 =>
    have e1 : (o.1 == 1) = false := by simp [h2]
    have e : (o.1 == 2) = true := by simpa using h2
    obtain ⟨j, v, hj, hjl, hx⟩ := thereB_get h3
    refine CSpec.of_awp envOf_ok hmix Tryz.func122 rfl (fun args w => Tryz.call122 args w) (by simp [Tryz.f122]) ?_
    simp only [Tryz.f122]
    simp (maxSteps := 2000000) -implicitDefEqProofs only [zz, zE, evop, ev, ofVal, tget, tput, ok, V.isUndef, initT, Ch.on, D.cells, ↓reduceIte, reduceCtorEq, Nat.reduceLT, Nat.reduceEqDiff, Nat.reduceAdd]
    simp (maxSteps := 2000000) -implicitDefEqProofs only [zz, zE, evop, ev, ofVal, tget, tput, ok, V.isUndef, intBin, Ch.on, calleeOf, withArgs, told, hget, hput, V.cells, D.cells, V.one, loadD, structAt, Blk.width, splice, ↓reduceIte, reduceCtorEq, Nat.reduceLT, Nat.reduceEqDiff, Nat.reduceAdd, Nat.reduceLeDiff, nilTest, dW, List.getElem?_map, h1, Option.map_some, Int.natCast_nonneg, e1, e]
    rw [hj] at h3
    refine acall_flat (by first | rfl | (simp only [xports, xport, hget]; rfl)) (c_r02_Live h o.2 hh) rfl ?_
    try simp (maxSteps := 2000000) -implicitDefEqProofs only [zz, zE, evop, ev, ofVal, tget, tput, ok, V.isUndef, Ch.on, told, xport, xports, hget, D.cells, structAt, Blk.width, resOf, resV, resVs, ↓reduceIte, reduceCtorEq, Nat.reduceLT, Nat.reduceEqDiff, Nat.reduceAdd]
    simp (maxSteps := 2000000) -implicitDefEqProofs only [zz, zE, evop, ev, ofVal, tget, tput, ok, V.isUndef, Ch.on, xport, xports, D.cells, loadD, structAt, resOf, resV, resVs, ↓reduceIte, reduceCtorEq, Nat.reduceLT, Nat.reduceEqDiff, Nat.reduceAdd, dC, hj, h3, List.getElem?_map, hx, Option.map_some, Int.natCast_nonneg]
  | regNo k o h1 h2 h3 =>
    have e1 : (o.1 == 1) = false := by simp [h2]
    have e2 : (o.1 == 2) = false := by simp [h2]
    have e : (o.1 == 3) = true := by simpa using h2
    have h3' : o.2 ≥ (regs.length : Int) := h3
    refine CSpec.of_awp envOf_ok hmix Tryz.func122 rfl (fun args w => Tryz.call122 args w) (by simp [Tryz.f122]) ?_
    simp only [Tryz.f122]
    simp (maxSteps := 2000000) -implicitDefEqProofs only [zz, zE, evop, ev, ofVal, tget, tput, ok, V.isUndef, initT, Ch.on, D.cells, ↓reduceIte, reduceCtorEq, Nat.reduceLT, Nat.reduceEqDiff, Nat.reduceAdd]
    simp (maxSteps := 2000000) -implicitDefEqProofs only [zz, zE, evop, ev, ofVal, tget, tput, ok, V.isUndef, intBin, Ch.on, told, xport, xports, hget, hput, V.cells, D.cells, V.one, loadD, structAt, sliceOf, Blk.width, lenOf, splice, resOf, resV, resVs, ↓reduceIte, reduceCtorEq, Nat.reduceLT, Nat.reduceEqDiff, Nat.reduceAdd, Nat.reduceLeDiff, nilTest, dW, List.getElem?_map, h1, Option.map_some, Int.natCast_nonneg, e1, e2, e, h3']
  | reg k o h1 h2 h3 h4 =>
    have e1 : (o.1 == 1) = false := by simp [h2]
    have e2 : (o.1 == 2) = false := by simp [h2]
    have e : (o.1 == 3) = true := by simpa using h2
    have h4' : ¬ o.2 ≥ (regs.length : Int) := h4
    have hx : regs[o.2.toNat]? = some (regs.getD o.2.toNat 0) := by rw [List.getD_eq_getElem?_getD, List.getElem?_eq_getElem (show o.2.toNat < regs.length by omega)]; rfl
    refine CSpec.of_awp envOf_ok hmix Tryz.func122 rfl (fun args w => Tryz.call122 args w) (by simp [Tryz.f122]) ?_
    simp only [Tryz.f122]
    simp (maxSteps := 2000000) -implicitDefEqProofs only [zz, zE, evop, ev, ofVal, tget, tput, ok, V.isUndef, initT, Ch.on, D.cells, ↓reduceIte, reduceCtorEq, Nat.reduceLT, Nat.reduceEqDiff, Nat.reduceAdd]
    simp (maxSteps := 2000000) -implicitDefEqProofs only [zz, zE, evop, ev, ofVal, tget, tput, ok, V.isUndef, intBin, Ch.on, calleeOf, withArgs, told, hget, hput, V.cells, D.cells, V.one, loadD, structAt, sliceOf, Blk.width, lenOf, splice, ↓reduceIte, reduceCtorEq, Nat.reduceLT, Nat.reduceEqDiff, Nat.reduceAdd, Nat.reduceLeDiff, nilTest, dI, dW, List.getElem?_map, h1, Option.map_some, Int.natCast_nonneg, e1, e2, e, h4', hx]
    refine ⟨h3, ?_⟩
    refine acall_flat (by first | rfl | (simp only [xports, xport, hget]; rfl)) (c_r01_Wrap _) rfl ?_
    try simp (maxSteps := 2000000) -implicitDefEqProofs only [zz, evop, ev, ofVal, tget, tput, ok, V.isUndef, Ch.on, xport, xports, resOf, resV, resVs, ↓reduceIte, Nat.reduceLT, Nat.reduceEqDiff]
  | not k o b kk h1 h2 h3 ih =>
    have e1 : (o.1 == 1) = false := by simp [h2]
    have e2 : (o.1 == 2) = false := by simp [h2]
    have e3 : (o.1 == 3) = false := by simp [h2]
    have e : (o.1 == 11) = true := by simpa using h2
    have hr := h3.rng
    have hw : IntKind.i64.wrap ((k : Int) - 1) = (k : Int) - 1 := by rw [wrap_in (by omega)]
    refine CSpec.of_awp envOf_ok hmix Tryz.func122 rfl (fun args w => Tryz.call122 args w) (by simp [Tryz.f122]) ?_
    simp only [Tryz.f122]
    simp (maxSteps := 2000000) -implicitDefEqProofs only [zz, zE, evop, ev, ofVal, tget, tput, ok, V.isUndef, initT, Ch.on, D.cells, ↓reduceIte, reduceCtorEq, Nat.reduceLT, Nat.reduceEqDiff, Nat.reduceAdd]
    simp (maxSteps := 2000000) -implicitDefEqProofs only [zz, zE, evop, ev, ofVal, tget, tput, ok, V.isUndef, intBin, Ch.on, calleeOf, withArgs, told, hget, hput, V.cells, D.cells, V.one, loadD, structAt, Blk.width, splice, ↓reduceIte, reduceCtorEq, Nat.reduceLT, Nat.reduceEqDiff, Nat.reduceAdd, Nat.reduceLeDiff, nilTest, dW, List.getElem?_map, h1, Option.map_some, Int.natCast_nonneg, e1, e2, e3, hw]
    refine acall_flat (by first | rfl | (simp only [xports, xport, hget]; rfl)) (ih) rfl ?_
    try simp (maxSteps := 2000000) -implicitDefEqProofs only [zz, zE, evop, ev, ofVal, tget, tput, ok, V.isUndef, intBin, Ch.on, calleeOf, withArgs, told, hget, structAt, Blk.width, ↓reduceIte, reduceCtorEq, Nat.reduceLT, Nat.reduceEqDiff, Nat.reduceAdd, nilTest]
    simp (maxSteps := 2000000) -implicitDefEqProofs only [↓reduceIte, e]
    refine acall_flat (by first | rfl | (simp only [xports, xport, hget]; rfl)) (c_r07_truth _) rfl ?_
    try simp (maxSteps := 2000000) -implicitDefEqProofs only [zz, evop, ev, tget, tput, ok, V.isUndef, Ch.on, xport, xports, resOf, resV, resVs, ↓reduceIte, Nat.reduceLT, Nat.reduceEqDiff]
  | two k o b s a kk is h1 h2 h3 h4 h5 h6 h7 h8 h9 ih1 ih2 =>
    have e1 : (o.1 == 1) = false := by simp; omega
    have e2 : (o.1 == 2) = false := by simp; omega
    have e3 : (o.1 == 3) = false := by simp; omega
    have e : (o.1 == 11) = false := by simpa using h3
    have hr := h4.rng
    have hr2 := h7.rng
    have hw : IntKind.i64.wrap ((k : Int) - 1) = (k : Int) - 1 := by rw [wrap_in (by omega)]
    have hw2 : IntKind.i64.wrap (s - 1) = s - 1 := by rw [wrap_in (by omega)]
    refine CSpec.of_awp envOf_ok hmix Tryz.func122 rfl (fun args w => Tryz.call122 args w) (by simp [Tryz.f122]) ?_
    simp only [Tryz.f122]
    simp (maxSteps := 2000000) -implicitDefEqProofs only [zz, zE, evop, ev, ofVal, tget, tput, ok, V.isUndef, initT, Ch.on, D.cells, ↓reduceIte, reduceCtorEq, Nat.reduceLT, Nat.reduceEqDiff, Nat.reduceAdd]
    simp (maxSteps := 2000000) -implicitDefEqProofs only [zz, zE, evop, ev, ofVal, tget, tput, ok, V.isUndef, intBin, Ch.on, calleeOf, withArgs, told, hget, hput, V.cells, D.cells, V.one, loadD, structAt, Blk.width, splice, ↓reduceIte, reduceCtorEq, Nat.reduceLT, Nat.reduceEqDiff, Nat.reduceAdd, Nat.reduceLeDiff, nilTest, dW, List.getElem?_map, h1, Option.map_some, Int.natCast_nonneg, e1, e2, e3, hw]
    refine acall_flat (by first | rfl | (simp only [xports, xport, hget]; rfl)) (ih1) rfl ?_
    try simp (maxSteps := 2000000) -implicitDefEqProofs only [zz, zE, evop, ev, ofVal, tget, tput, ok, V.isUndef, intBin, Ch.on, calleeOf, withArgs, told, hget, structAt, Blk.width, ↓reduceIte, reduceCtorEq, Nat.reduceLT, Nat.reduceEqDiff, Nat.reduceAdd, nilTest]
    simp (maxSteps := 2000000) -implicitDefEqProofs only [zz, ↓reduceIte, e, hw]
    refine acall_flat (by first | rfl | (simp only [xports, xport, hget]; rfl)) (c_r07_start t hl h5 (by omega)) rfl ?_
    try simp (maxSteps := 2000000) -implicitDefEqProofs only [zz, evop, ev, ofVal, tget, tput, ok, V.isUndef, intBin, Ch.on, calleeOf, withArgs, ↓reduceIte, reduceCtorEq, Nat.reduceLT, Nat.reduceEqDiff, nilTest]
    simp (maxSteps := 2000000) -implicitDefEqProofs only [hw2]
    refine acall_flat (by first | rfl | (simp only [xports, xport, hget]; rfl)) (ih2) rfl ?_
    try simp (maxSteps := 2000000) -implicitDefEqProofs only [zz, zE, evop, ev, tget, tput, ok, V.isUndef, Ch.on, calleeOf, withArgs, hget, structAt, Blk.width, ↓reduceIte, reduceCtorEq, Nat.reduceLT, Nat.reduceEqDiff, Nat.reduceAdd]
    refine acall_flat (by first | rfl | (simp only [xports, xport, hget]; rfl)) (c_r07_both o.1 a b h8 h9) rfl ?_
    try simp (maxSteps := 2000000) -implicitDefEqProofs only [zz, evop, ev, ofVal, tget, tput, ok, V.isUndef, guardOf, Ch.on, xport, xports, resOf, resV, resVs, ↓reduceIte, Nat.reduceLT, Nat.reduceEqDiff]
    cases kk <;> simp (maxSteps := 2000000) -implicitDefEqProofs only [zz, ↓reduceIte]

theorem c_r07_Eval (h : List (Bool × Int)) (regs : List Int) (t : List (Int × Int)) (hl : h.length ≤ 1000000) (htl : t.length ≤ 1000000) :
    CSpec Tryz.prog 67 [.vec (t.map dW), .vec (h.map dC), .vec (regs.map dI)] (.tuple [.int .i64 (evalT h regs t).1, .int .i64 (evalT h regs t).2]) := by
  refine CSpec.of_awp envOf_ok hmix Tryz.func67 rfl (fun args w => Tryz.call67 args w) (by simp [Tryz.f67]) ?_
  simp only [Tryz.f67]
  simp (maxSteps := 2000000) -implicitDefEqProofs only [zz, evop, ev, ofVal, tget, tput, ok, V.isUndef, initT, Ch.on, calleeOf, withArgs, ↓reduceIte, reduceCtorEq, Nat.reduceLT, Nat.reduceAdd]
  refine acall_flat (by first | rfl | (simp only [xports, xport, hget]; rfl)) (c_r07_Check t htl) rfl ?_
  try simp (maxSteps := 2000000) -implicitDefEqProofs only [zz, evop, ev, ofVal, tget, tput, ok, V.isUndef, intBin, Ch.on, calleeOf, withArgs, told, xport, xports, resOf, resV, resVs, ↓reduceIte, reduceCtorEq, Nat.reduceLT, Nat.reduceEqDiff, nilTest]
  by_cases hc : termC t = 0
  case neg =>
    have e : (termC t != 0) = true := by simpa using hc
    simp (maxSteps := 2000000) -implicitDefEqProofs only [↓reduceIte, e]
    simp [evalT, hc]
  have e : (termC t != 0) = false := by simpa using hc
  simp (maxSteps := 2000000) -implicitDefEqProofs only [zz, ↓reduceIte, e]
  refine acall_flat (by first | rfl | (simp only [xports, xport, hget]; rfl)) (c_r02_Right h hl) rfl ?_
  try simp (maxSteps := 2000000) -implicitDefEqProofs only [zz, zE, evop, ev, ofVal, tget, tput, ok, V.isUndef, intBin, Ch.on, calleeOf, withArgs, told, xport, xports, sliceOf, lenOf, resOf, resV, resVs, ↓reduceIte, reduceCtorEq, Nat.reduceLT, Nat.reduceEqDiff, nilTest]
  cases hr : heapR h with
  | false =>
    simp (maxSteps := 2000000) -implicitDefEqProofs only [zz, ↓reduceIte]
    simp [evalT, hc, hr]
  | true =>
  obtain ⟨t1, t2, t3, t4⟩ := termC_0 hc
  obtain ⟨v, kk, hv, he⟩ := eval_val (regs := regs) hc hr
  have hw : IntKind.i64.wrap ((t.length : Int) - 1) = (t.length : Int) - 1 := by rw [wrap_in (by omega)]
  rw [he]
  simp (maxSteps := 2000000) -implicitDefEqProofs only [zz, ↓reduceIte, hw]
  refine acall_flat (by first | rfl | (simp only [xports, xport, hget]; rfl)) (c_r07_value t h regs htl hl hv) rfl ?_
  try simp (maxSteps := 2000000) -implicitDefEqProofs only [zz, evop, ev, ofVal, tget, tput, ok, V.isUndef, Ch.on, told, xport, xports, resOf, resV, resVs, ↓reduceIte, Nat.reduceLT, Nat.reduceEqDiff]
  cases kk <;> simp (maxSteps := 2000000) -implicitDefEqProofs only [zz, ↓reduceIte]
end Go.Proofs.YtjhfpabldidlgaaGreat.AM

/- The library's sort of whole numbers, as a contract on a heap. -/
set_option linter.all false
namespace Go.Proofs.YtjhfpabldidlgaaGreat.AM
open Go Go.RowKit

section
variable {P : Program} {C : Ctx} {φ : Nat → Option Loc} {S : Nat → Prop} {H : Heap} {w w' : World}

theorem HRel.grown (hH : HRel C φ S H w) (hsz : w.heap.size ≤ w'.heap.size) (hold : ∀ B, B < w.heap.size → w'.heap[B]? = w.heap[B]?) : HRel C φ S H w' ∧ Step φ S H w φ S H w' := by
  have hs : Step φ S H w φ S H w' := ⟨fun B h hlt => ⟨h, hold B hlt⟩, (Step.refl (φ := φ) (S := S) (H := H) (w := w)).keepH⟩
  exact ⟨⟨Nat.le_trans hH.n0 hsz, hH.own, hH.vis, hH.inj, fun id => (hH.blk id).keep hs rfl (fun L hL => ⟨hold _ (hH.lt hL), Iff.rfl⟩), fun B hB => Nat.lt_of_lt_of_le (hH.low B hB) hsz⟩, hs⟩

theorem RSpec.of_sort {f : Nat} (hcall : Callable P f)
    (h0 : ∀ (p : Option Addr) (cap : Nat) (w : World), Calls P f #[.slice p 0 cap] w fun e w' => e = .returned (.tuple #[]) ∧ w' = w)
    (h1 : ∀ (blk off cap : Nat) (zs : List Int) (w : World), Sort.Holds (Value.int .i64) w blk off zs.toArray → blk < w.heap.size → zs.length < 4611686018427387904 →
      Calls P f #[.slice (some ⟨blk, off, none⟩) zs.length cap] w fun e w' => e = .returned (.tuple #[]) ∧ ∃ n os, w' = Sort.grow (Sort.putRow (Value.int .i64) (Sort.ahead w n) blk off (zs.mergeSort fun x y => decide (x ≤ y)).toArray) os)
    (zs : List Int) (hl : zs.length ≤ 1000000) : RSpec P f [.own 0 0 zs.length] [.dat false 1 (zs.map fun n => .int .i64 n)] (.tuple []) [.dat false 1 ((zs.mergeSort fun x y => decide (x ≤ y)).map fun n => .int .i64 n)] := by
  refine ⟨hcall, fun C φ S w cs hH hv => ?_⟩
  match cs, hv.len with
  | [c], _ =>
  have hc := hv.at_ 0 _ c rfl rfl
  cases hc with | own _ _ _ l cap A hub hh =>
  obtain ⟨r1, r0, r2, r3⟩ := hh false 1 _ rfl
  subst r0
  have ret : ∀ w1, RV φ S [.dat false 1 ((zs.mergeSort fun x y => decide (x ≤ y)).map fun n => .int .i64 n)] w1 (.tuple []) (.tuple #[]) := fun w1 => .tuple [] [] rfl (fun i v c h => by simp at h)
  by_cases hz : zs = []
  · subst hz
    refine (h0 A cap w).mono ?_
    rintro e w' ⟨rfl, rfl⟩
    exact ⟨_, φ, S, rfl, ret _, by simpa using hH, by simpa using Step.refl, .refl⟩
  · have hzl : 0 < zs.length := List.length_pos_iff.2 hz
    rcases r3 with r3 | ⟨L, hL, rfl, hfit⟩
    · omega
    have hb := hH.blk 0
    rcases hb with ⟨hn, _⟩ | ⟨L', cur, t, h1', hat, hsz1, hroom, hcells, hS⟩
    · simp at hn; exact absurd hn hz
    rw [hL] at h1'; cases h1'
    simp only [List.length_map, Nat.mul_one] at hroom
    have hcell : ∀ j, j < zs.length → cur[L.off + j]? = some (.int .i64 (zs.getD j 0)) := fun j hj => by
      obtain ⟨c, hc1, hc2⟩ := hcells j (.int .i64 zs[j]) 0 (.int .i64 zs[j]) (by simp [hj]) rfl
      rw [Nat.mul_one, Nat.add_zero] at hc1
      rw [hc1]
      cases hc2
      simp [List.getD_eq_getElem?_getD, hj]
    have hH0 : Sort.Holds (Value.int .i64) w L.blk (L.off + 0 * 1) zs.toArray := fun j hj => by
      have hj' : j < zs.length := by simpa using hj
      refine ⟨?_, by simp [World.frozen?, hat.heap]⟩
      simp only [World.cell?, hat.heap, Option.isSome_none, Bool.false_eq_true, if_false, Nat.zero_mul, Nat.add_zero]
      rw [hcell j hj']
      simp [getElem!_def, List.getD_eq_getElem?_getD, hj']
    refine (h1 L.blk (L.off + 0 * 1) cap zs w hH0 (hH.lt hL) (by omega)).mono ?_
    rintro e w' ⟨rfl, n, os, rfl⟩
    generalize hts : (zs.mergeSort fun x y => decide (x ≤ y)) = ts at ret ⊢
    have htl : ts.length = zs.length := by rw [← hts, List.length_mergeSort]
    have hw' : ∀ B, B < (w.setRow L.blk (Sort.putCells (Value.int .i64) L.off ts.toArray cur)).heap.size → (Sort.grow (Sort.putRow (Value.int .i64) (Sort.ahead w n) L.blk (L.off + 0 * 1) ts.toArray) os).heap[B]? = (w.setRow L.blk (Sort.putCells (Value.int .i64) L.off ts.toArray cur)).heap[B]? := fun B hB => by
      have hB' : B < w.heap.size := by simpa using hB
      rw [Sort.heap_grow_old _ _ (by simpa [Sort.putRow, Sort.mapBlock, Sort.ahead] using hB')]
      by_cases e : B = L.blk
      · subst e
        rw [setRow_heap w L.blk cur _ t (0, 0) hat.heap]
        simp [Sort.putRow, Sort.mapBlock, Sort.ahead, Array.getElem?_modify, hat.heap, Sort.onCells]
      · rw [setRow_other w L.blk B _ e]
        have : ¬ L.blk = B := fun e' => e e'.symm
        simp [Sort.putRow, Sort.mapBlock, Sort.ahead, Array.getElem?_modify, this]
    have hnS : ¬ S L.blk := fun h => by have := hS.1 h; cases this
    obtain ⟨q1, q2, q3⟩ := hH.write (cs' := Sort.putCells (Value.int .i64) L.off ts.toArray cur) hL hat hnS (by simp [Sort.putCells]) (.dat false 1 (ts.map fun n => .int .i64 n)) ⟨rfl, by simp [htl]⟩ (fun hst => by
      refine .inr ⟨L, _, t, hL, ⟨setRow_heap w L.blk cur _ t (0, 0) hat.heap, by rw [hat.size]; simp [Sort.putCells]⟩, fun e he => ?_, by simp [htl, Sort.putCells]; omega, fun i e k x he hx => ?_, by simpa using hnS⟩
      · obtain ⟨n, _, rfl⟩ := List.mem_map.1 he; rfl
      · have hi : i < ts.length := by have := (List.getElem?_eq_some_iff.1 he).1; simpa using this
        have he' : e = .int .i64 ts[i] := by
          rw [List.getElem?_map, List.getElem?_eq_getElem hi] at he
          simpa using he.symm
        subst he'
        cases k with
        | succ k => simp [D.cells] at hx
        | zero =>
          simp [D.cells] at hx
          subst hx
          refine ⟨.int .i64 ts[i], ?_, .int _ _⟩
          have hlt : L.off + i < cur.size := by omega
          simp only [Nat.mul_one, Nat.add_zero, Sort.putCells]
          rw [Array.getElem?_mapIdx, Array.getElem?_eq_getElem hlt]
          simp [hi])
    obtain ⟨p1, p2⟩ := q1.grown (w' := Sort.grow (Sort.putRow (Value.int .i64) (Sort.ahead w n) L.blk (L.off + 0 * 1) ts.toArray) os) (by simp [Sort.putRow, Sort.mapBlock, Sort.ahead]) hw'
    refine ⟨_, φ, S, rfl, ret _, by simpa [hput] using p1, ?_, ?_⟩
    · have := q2.trans p2 (by simp) (by simp [Sort.putRow, Sort.mapBlock, Sort.ahead])
      simpa [hput] using this
    · refine ⟨rfl, rfl, rfl, by simp [Sort.putRow, Sort.mapBlock, Sort.ahead], fun B hB hO => ?_⟩
      have hB' : B < w.heap.size := Nat.lt_of_lt_of_le hB hH.n0
      rw [hw' B (by simpa using hB')]
      exact q3.block B hB hO
end
end Go.Proofs.YtjhfpabldidlgaaGreat.AM

/- The library's Compact of whole numbers, as a contract on a heap. -/
set_option linter.all false
namespace Go.Proofs.YtjhfpabldidlgaaGreat.AM
open Go Go.RowKit

section
variable {P : Program} {C : Ctx} {φ : Nat → Option Loc} {S : Nat → Prop} {H : Heap} {w w' : World}

theorem RSpec.of_compact {f : Nat} (hcall : Callable P f)
    (h0 : ∀ (p : Option Addr) (cap : Nat) (w : World), Calls P f #[.slice p 0 cap] w fun e w' => e = .returned (.slice p 0 cap) ∧ w' = w)
    (zs ts : List Int) (m : Nat) (hl : zs.length ≤ 1000000) (htl : ts.length = zs.length) (hm : m ≤ zs.length)
    (h1 : ∀ (blk off cap : Nat) (w : World), Sort.Holds (Value.int .i64) w blk off zs.toArray → zs.length ≤ cap →
      Calls P f #[.slice (some ⟨blk, off, none⟩) zs.length cap] w fun e w' => e = .returned (.slice (some ⟨blk, off, none⟩) m cap) ∧ ∃ n, w' = Sort.putRow (Value.int .i64) (Sort.ahead w n) blk off ts.toArray) :
    RSpec P f [.own 0 0 zs.length] [.dat false 1 (zs.map fun n => .int .i64 n)] (.own 0 0 m) [.dat false 1 (ts.map fun n => .int .i64 n)] := by
  refine ⟨hcall, fun C φ S w cs hH hv => ?_⟩
  match cs, hv.len with
  | [c], _ =>
  have hc := hv.at_ 0 _ c rfl rfl
  cases hc with | own _ _ _ l cap A hub hh =>
  obtain ⟨r1, r0, r2, r3⟩ := hh false 1 _ rfl
  subst r0
  by_cases hz : zs = []
  · subst hz
    have : ts = [] := List.eq_nil_of_length_eq_zero htl
    subst this
    obtain rfl : m = 0 := by simpa using hm
    refine (h0 A cap w).mono ?_
    rintro e w' ⟨rfl, rfl⟩
    exact ⟨_, φ, S, rfl, .own _ _ _ _ _ _ hub hh, hH, Step.refl, .refl⟩
  · have hzl : 0 < zs.length := List.length_pos_iff.2 hz
    rcases r3 with r3 | ⟨L, hL, rfl, hfit⟩
    · omega
    have hb := hH.blk 0
    rcases hb with ⟨hn, _⟩ | ⟨L', cur, t, h1', hat, hsz1, hroom, hcells, hS⟩
    · simp at hn; exact absurd hn hz
    rw [hL] at h1'; cases h1'
    simp only [List.length_map, Nat.mul_one] at hroom
    have hcell : ∀ j, j < zs.length → cur[L.off + j]? = some (.int .i64 (zs.getD j 0)) := fun j hj => by
      obtain ⟨c, hc1, hc2⟩ := hcells j (.int .i64 zs[j]) 0 (.int .i64 zs[j]) (by simp [hj]) rfl
      rw [Nat.mul_one, Nat.add_zero] at hc1
      rw [hc1]
      cases hc2
      simp [List.getD_eq_getElem?_getD, hj]
    have hH0 : Sort.Holds (Value.int .i64) w L.blk (L.off + 0 * 1) zs.toArray := fun j hj => by
      have hj' : j < zs.length := by simpa using hj
      refine ⟨?_, by simp [World.frozen?, hat.heap]⟩
      simp only [World.cell?, hat.heap, Option.isSome_none, Bool.false_eq_true, if_false, Nat.zero_mul, Nat.add_zero]
      rw [hcell j hj']
      simp [getElem!_def, List.getD_eq_getElem?_getD, hj']
    refine (h1 L.blk (L.off + 0 * 1) cap w hH0 r2).mono ?_
    rintro e w' ⟨rfl, n, rfl⟩
    have hw' : ∀ B, B < (w.setRow L.blk (Sort.putCells (Value.int .i64) L.off ts.toArray cur)).heap.size → (Sort.putRow (Value.int .i64) (Sort.ahead w n) L.blk (L.off + 0 * 1) ts.toArray).heap[B]? = (w.setRow L.blk (Sort.putCells (Value.int .i64) L.off ts.toArray cur)).heap[B]? := fun B hB => by
      have hB' : B < w.heap.size := by simpa using hB
      by_cases e : B = L.blk
      · subst e
        rw [setRow_heap w L.blk cur _ t (0, 0) hat.heap]
        simp [Sort.putRow, Sort.mapBlock, Sort.ahead, Array.getElem?_modify, hat.heap, Sort.onCells]
      · rw [setRow_other w L.blk B _ e]
        have : ¬ L.blk = B := fun e' => e e'.symm
        simp [Sort.putRow, Sort.mapBlock, Sort.ahead, Array.getElem?_modify, this]
    have hnS : ¬ S L.blk := fun h => by have := hS.1 h; cases this
    obtain ⟨q1, q2, q3⟩ := hH.write (cs' := Sort.putCells (Value.int .i64) L.off ts.toArray cur) hL hat hnS (by simp [Sort.putCells]) (.dat false 1 (ts.map fun n => .int .i64 n)) ⟨rfl, by simp [htl]⟩ (fun hst => by
      refine .inr ⟨L, _, t, hL, ⟨setRow_heap w L.blk cur _ t (0, 0) hat.heap, by rw [hat.size]; simp [Sort.putCells]⟩, fun e he => ?_, by simp [htl, Sort.putCells]; omega, fun i e k x he hx => ?_, by simpa using hnS⟩
      · obtain ⟨n, _, rfl⟩ := List.mem_map.1 he; rfl
      · have hi : i < ts.length := by have := (List.getElem?_eq_some_iff.1 he).1; simpa using this
        have he' : e = .int .i64 ts[i] := by
          rw [List.getElem?_map, List.getElem?_eq_getElem hi] at he
          simpa using he.symm
        subst he'
        cases k with
        | succ k => simp [D.cells] at hx
        | zero =>
          simp [D.cells] at hx
          subst hx
          refine ⟨.int .i64 ts[i], ?_, .int _ _⟩
          have hlt : L.off + i < cur.size := by omega
          simp only [Nat.mul_one, Nat.add_zero, Sort.putCells]
          rw [Array.getElem?_mapIdx, Array.getElem?_eq_getElem hlt]
          simp [hi])
    obtain ⟨p1, p2⟩ := q1.grown (w' := Sort.putRow (Value.int .i64) (Sort.ahead w n) L.blk (L.off + 0 * 1) ts.toArray) (by simp [Sort.putRow, Sort.mapBlock, Sort.ahead]) hw'
    refine ⟨_, φ, S, rfl, .own 0 0 m m cap _ (by simp [hget]) (fun fz sz els hg => ?_), by simpa [hput] using p1, ?_, ?_⟩
    · simp [hget] at hg
      obtain ⟨rfl, rfl, rfl⟩ := hg
      exact ⟨by simp [htl]; exact hm, rfl, by omega, .inr ⟨L, hL, rfl, hfit⟩⟩
    · have := q2.trans p2 (by simp) (by simp [Sort.putRow, Sort.mapBlock, Sort.ahead])
      simpa [hput] using this
    · refine ⟨rfl, rfl, rfl, by simp [Sort.putRow, Sort.mapBlock, Sort.ahead], fun B hB hO => ?_⟩
      have hB' : B < w.heap.size := Nat.lt_of_lt_of_le hB hH.n0
      rw [hw' B (by simpa using hB')]
      exact q3.block B hB hO
end
end Go.Proofs.YtjhfpabldidlgaaGreat.AM

/- cmp.Compare. -/
set_option linter.all false
set_option maxRecDepth 100000
set_option maxHeartbeats 4000000
namespace Go.Proofs.YtjhfpabldidlgaaGreat.AM
open Go Go.RowKit

def cmpI (a b : Int) : Int := if a < b then -1 else if b < a then 1 else 0

theorem c_Compare (a b : Int) : CSpec Tryz.prog 132 [.int .i64 a, .int .i64 b] (.int .i64 (cmpI a b)) := by
  refine CSpec.of_awp envOf_ok hmix Tryz.func132 rfl (fun args w => Tryz.call132 args w) (by simp [Tryz.f132]) ?_
  simp only [Tryz.f132]
  simp (maxSteps := 2000000) -implicitDefEqProofs only [zz, evop, ev, ofVal, tget, tput, ok, V.isUndef, initT, Ch.on, calleeOf, withArgs, ↓reduceIte, reduceCtorEq, Nat.reduceLT, Int.reduceNeg]
  refine acall_flat (by first | rfl | (simp only [xports, xport, hget]; rfl)) (c_isNaN _) rfl ?_
  try simp (maxSteps := 2000000) -implicitDefEqProofs only [zz, evop, ev, tget, tput, ok, V.isUndef, Ch.on, calleeOf, withArgs, ↓reduceIte, reduceCtorEq, Nat.reduceLT, Nat.reduceEqDiff, Int.reduceNeg]
  refine acall_flat (by first | rfl | (simp only [xports, xport, hget]; rfl)) (c_isNaN _) rfl ?_
  try simp (maxSteps := 2000000) -implicitDefEqProofs only [zz, evop, ev, ofVal, tget, tput, ok, V.isUndef, intBin, Ch.on, told, xport, resOf, resV, resVs, ↓reduceIte, reduceCtorEq, Nat.reduceLT, Nat.reduceEqDiff, Int.reduceNeg, nilTest]
  unfold cmpI
  split
  · simp_all
  · split <;> simp_all


end Go.Proofs.YtjhfpabldidlgaaGreat.AM

/- Put, Mark, Keep, Back. -/
set_option linter.all false
set_option maxRecDepth 100000
set_option maxHeartbeats 4000000
namespace Go.Proofs.YtjhfpabldidlgaaGreat.AM
open Go Go.RowKit

def logPut (l : Lg) (w : Int × Int) : Lg × Int := if logR l = true ∧ wrongW w = false then (if l.1.length = 24 then (l, 5) else ((l.1 ++ [w], l.2), 0)) else (l, 1)
def logMark (l : Lg) : Lg × Int := if logR l = true then (if l.2.length = 6 then (l, 5) else ((l.1, l.2 ++ [(l.1.length : Int)]), 0)) else (l, 1)
def logMarked (l : Lg) : Int := if logR l = true then (if l.2.length = 0 then 3 else 0) else 1
def logKeep (l : Lg) : Lg × Int := if logMarked l = 0 then ((l.1, l.2.dropLast), 0) else (l, logMarked l)
def logBack (l : Lg) : Lg × Int := if logMarked l = 0 then ((l.1.take ((l.2.getLast?).getD 0).toNat, l.2.dropLast), 0) else (l, logMarked l)
def dLE (r : Lg × Int) : D := .tuple [dLg r.1, .int .i64 r.2]

theorem logR_len {l : Lg} (h : logR l = true) : l.1.length ≤ 24 ∧ l.2.length ≤ 6 := by
  simp [logR] at h; omega

theorem c_W_Put (l : Lg) (w : Int × Int) (h1 : l.1.length ≤ 1000000) (h2 : l.2.length ≤ 1000000) : CSpec Tryz.prog 173 [dLg l, dW w] (dLE (logPut l w)) := by
  refine CSpec.of_awp envOf_ok hmix Tryz.func173 rfl (fun args w => Tryz.call173 args w) (by simp [Tryz.f173]) ?_
  simp only [Tryz.f173]
  simp (maxSteps := 2000000) -implicitDefEqProofs only [zz, zE, evop, ev, ofVal, tget, tput, ok, V.isUndef, initT, Ch.on, calleeOf, withArgs, hget, hput, V.cells, ↓reduceIte, reduceCtorEq, Nat.reduceLT, Nat.reduceEqDiff, Nat.reduceAdd, Nat.reduceLeDiff, dW, dLg]
  refine acall_flat (by first | rfl | (simp only [xports, xport, hget]; rfl)) (c_W_Right l) rfl ?_
  try simp (maxSteps := 2000000) -implicitDefEqProofs only [zz, zE, evop, ev, ofVal, tget, tput, ok, V.isUndef, guardOf, Ch.on, calleeOf, withArgs, told, xport, xports, hget, hput, V.cells, V.one, splice, resOf, resV, resVs, ↓reduceIte, Nat.reduceLT, Nat.reduceEqDiff, Nat.reduceAdd, Nat.reduceLeDiff]
  split
  · rename_i hr
    simp only [Bool.not_eq_eq_eq_not, Bool.not_false] at hr
    refine acall_flat (by first | rfl | (simp only [xports, xport, hget]; rfl)) (c_wrong w) rfl ?_
    try simp (maxSteps := 2000000) -implicitDefEqProofs only [zz, zE, evop, ev, ofVal, tget, tput, ok, V.isUndef, intBin, Ch.on, calleeOf, withArgs, told, xport, xports, hget, hput, V.cells, V.one, structAt, sliceOf, Blk.width, lenOf, splice, resOf, resV, resVs, ↓reduceIte, reduceCtorEq, Nat.reduceLT, Nat.reduceEqDiff, Nat.reduceAdd, Nat.reduceLeDiff, nilTest]
    split
    · rename_i hw
      have : logPut l w = (l, 1) := by simp [logPut, wrongW, hw]
      simp [this, dLE, dLg]
    · rename_i hw
      split
      · rename_i hl
        have : logPut l w = (l, 5) := by simp [logPut, wrongW, hr, hw] at hl ⊢; omega
        simp [this, dLE, dLg]
      · rename_i hl
        refine acall_own (by first | rfl | (simp only [xports, xport, hget]; rfl)) (o_own l h1 h2) ?_
        try simp (maxSteps := 2000000) -implicitDefEqProofs only [zz, zE, evop, ev, ofVal, tget, tput, ok, V.isUndef, Ch.on, xport, xports, tids, tidss, hget, hput, freeze, V.cells, D.cells, V.one, V.clo, clos, V.toD, structAt, sliceOf, partsD, Blk.width, elems, splice, resOf, resV, resVs, ↓reduceIte, reduceCtorEq, Nat.reduceLT, Nat.reduceEqDiff, Nat.reduceAdd, Nat.reduceMul, Nat.reduceLeDiff, shiftH, Blk.ren, V.ren, renL, rLg, hLg]
        have hl' := logR_len hr
        have e : logPut l w = ((l.1 ++ [w], l.2), 0) := by
          have : wrongW w = false := by simpa [wrongW] using hw
          simp [logPut, hr, this] at hl ⊢; omega
        refine ⟨⟨by omega, fun e he => ?_⟩, ?_⟩
        · obtain rfl : e = _ := by simpa using he
          rfl
        · rw [e]
          have q1 : List.take l.1.length (l.1.map dW) = l.1.map dW := List.take_of_length_le (by simp)
          have q2 : List.take l.2.length (l.2.map dI) = l.2.map dI := List.take_of_length_le (by simp)
          rw [q1, q2, List.take_of_length_le (by simp)]
          simp [dLE, dLg, dW]
  · rename_i hr
    have : logPut l w = (l, 1) := by simp [logPut] at hr ⊢; simp [hr]
    simp [this, dLE, dLg]

theorem c_W_Mark (l : Lg) (h1 : l.1.length ≤ 1000000) (h2 : l.2.length ≤ 1000000) : CSpec Tryz.prog 175 [dLg l] (dLE (logMark l)) := by
  refine CSpec.of_awp envOf_ok hmix Tryz.func175 rfl (fun args w => Tryz.call175 args w) (by simp [Tryz.f175]) ?_
  simp only [Tryz.f175]
  simp (maxSteps := 2000000) -implicitDefEqProofs only [zz, zE, evop, ev, ofVal, tget, tput, ok, V.isUndef, initT, Ch.on, calleeOf, withArgs, hget, hput, V.cells, ↓reduceIte, Nat.reduceLT, Nat.reduceEqDiff, Nat.reduceAdd, Nat.reduceLeDiff, dLg]
  refine acall_flat (by first | rfl | (simp only [xports, xport, hget]; rfl)) (c_W_Right l) rfl ?_
  try simp (maxSteps := 2000000) -implicitDefEqProofs only [zz, zE, evop, ev, ofVal, tget, tput, ok, V.isUndef, intBin, Ch.on, calleeOf, withArgs, told, xport, xports, hget, hput, V.cells, V.one, structAt, sliceOf, Blk.width, lenOf, splice, resOf, resV, resVs, ↓reduceIte, reduceCtorEq, Nat.reduceLT, Nat.reduceEqDiff, Nat.reduceAdd, Nat.reduceLeDiff, nilTest]
  split
  · rename_i hr
    have : logMark l = (l, 1) := by simp [logMark] at hr ⊢; simp [hr]
    simp [this, dLE, dLg]
  · rename_i hr
    have hr : logR l = true := by simpa using hr
    have hl' := logR_len hr
    split
    · rename_i hl
      have : logMark l = (l, 5) := by simp [logMark, hr] at hl ⊢; omega
      simp [this, dLE, dLg]
    · rename_i hl
      refine acall_own (by first | rfl | (simp only [xports, xport, hget]; rfl)) (o_own l h1 h2) ?_
      try simp (maxSteps := 2000000) -implicitDefEqProofs only [zz, zE, evop, ev, ofVal, tget, tput, ok, V.isUndef, Ch.on, xport, xports, tids, tidss, hget, hput, freeze, V.cells, D.cells, V.one, V.toD, structAt, sliceOf, partsD, Blk.width, elems, lenOf, splice, resOf, resV, resVs, ↓reduceIte, reduceCtorEq, Nat.reduceLT, Nat.reduceEqDiff, Nat.reduceAdd, Nat.reduceMul, Nat.reduceLeDiff, shiftH, Blk.ren, V.ren, renL, rLg, hLg]
      have e : logMark l = ((l.1, l.2 ++ [(l.1.length : Int)]), 0) := by
        simp [logMark, hr] at hl ⊢; omega
      refine ⟨⟨by omega, fun e he => ?_⟩, ?_⟩
      · obtain rfl : e = _ := by simpa using he
        rfl
      · rw [e]
        have q1 : List.take l.1.length (l.1.map dW) = l.1.map dW := List.take_of_length_le (by simp)
        have q2 : List.take l.2.length (l.2.map dI) = l.2.map dI := List.take_of_length_le (by simp)
        rw [q1, q2, List.take_of_length_le (by simp)]
        simp [dLE, dLg, dI]

theorem c_W_marked (l : Lg) : CSpec Tryz.prog 163 [dLg l] (.int .i64 (logMarked l)) := by
  refine CSpec.of_awp envOf_ok hmix Tryz.func163 rfl (fun args w => Tryz.call163 args w) (by simp [Tryz.f163]) ?_
  simp only [Tryz.f163]
  simp (maxSteps := 2000000) -implicitDefEqProofs only [zz, zE, evop, ev, ofVal, tget, tput, ok, V.isUndef, initT, Ch.on, calleeOf, withArgs, hget, hput, V.cells, ↓reduceIte, Nat.reduceLT, Nat.reduceEqDiff, Nat.reduceAdd, Nat.reduceLeDiff, dLg]
  refine acall_flat (by first | rfl | (simp only [xports, xport, hget]; rfl)) (c_W_Right l) rfl ?_
  try simp (maxSteps := 2000000) -implicitDefEqProofs only [zz, zE, evop, ev, ofVal, tget, tput, ok, V.isUndef, intBin, Ch.on, told, xport, hget, structAt, sliceOf, Blk.width, lenOf, resOf, resV, resVs, ↓reduceIte, reduceCtorEq, Nat.reduceLT, Nat.reduceEqDiff, Nat.reduceAdd, nilTest]
  unfold logMarked
  split
  · rename_i hr
    simp at hr; simp [hr]
  · rename_i hr
    simp at hr
    split
    · rename_i hl
      simp at hl
      simp [hr]; omega
    · rename_i hl
      simp at hl
      simp [hr]; omega

theorem logMarked_0 {l : Lg} (h : logMarked l = 0) : logR l = true ∧ l.2.length ≠ 0 := by
  unfold logMarked at h
  split at h
  · rename_i hr
    split at h
    · cases h
    · exact ⟨hr, by assumption⟩
  · cases h

theorem c_W_Keep (l : Lg) (h1 : l.1.length ≤ 1000000) (h2 : l.2.length ≤ 1000000) : CSpec Tryz.prog 105 [dLg l] (dLE (logKeep l)) := by
  refine CSpec.of_awp envOf_ok hmix Tryz.func105 rfl (fun args w => Tryz.call105 args w) (by simp [Tryz.f105]) ?_
  simp only [Tryz.f105]
  simp (maxSteps := 2000000) -implicitDefEqProofs only [zz, zE, evop, ev, ofVal, tget, tput, ok, V.isUndef, initT, Ch.on, calleeOf, withArgs, hget, hput, V.cells, ↓reduceIte, Nat.reduceLT, Nat.reduceEqDiff, Nat.reduceAdd, Nat.reduceLeDiff, dLg]
  refine acall_flat (by first | rfl | (simp only [xports, xport, hget]; rfl)) (c_W_marked l) rfl ?_
  try simp (maxSteps := 2000000) -implicitDefEqProofs only [zz, zE, evop, ev, ofVal, tget, tput, ok, V.isUndef, intBin, Ch.on, calleeOf, withArgs, told, xport, xports, hget, hput, V.cells, V.one, splice, resOf, resV, resVs, ↓reduceIte, Nat.reduceLT, Nat.reduceEqDiff, Nat.reduceAdd, Nat.reduceLeDiff, nilTest]
  split
  · rename_i hm
    have : logKeep l = (l, logMarked l) := by simp [logKeep] at hm ⊢; simp [hm]
    simp [this, dLE, dLg]
  · rename_i hm
    have hm' : logMarked l = 0 := by simpa using hm
    obtain ⟨hr, hne⟩ := logMarked_0 hm'
    have hl' := logR_len hr
    refine acall_own (by first | rfl | (simp only [xports, xport, hget]; rfl)) (o_own l h1 h2) ?_
    try simp (maxSteps := 2000000) -implicitDefEqProofs only [zz, zE, evop, ev, ofVal, tget, tput, ok, V.isUndef, intBin, Ch.on, xport, xports, tids, tidss, hget, hput, freeze, V.cells, V.one, structAt, sliceOf, bound, Blk.width, lenOf, splice, resOf, resV, resVs, ↓reduceIte, reduceCtorEq, Nat.reduceLT, Nat.reduceEqDiff, Nat.reduceAdd, Nat.reduceLeDiff, nilTest, shiftH, Blk.ren, V.ren, renL, rLg, hLg]
    have hw : IntKind.i64.wrap ((l.2.length : Int) - 1) = ((l.2.length - 1 : Nat) : Int) := by rw [wrap_in (by omega)]; omega
    have e : logKeep l = ((l.1, l.2.dropLast), 0) := by simp [logKeep, hm']
    rw [hw, e]
    refine ⟨⟨by omega, by omega, by omega⟩, ?_⟩
    have q1 : List.take l.1.length (l.1.map dW) = l.1.map dW := List.take_of_length_le (by simp)
    have q2 : (((l.2.length - 1 : Nat) : Int) - 0).toNat = l.2.length - 1 := by omega
    rw [q1, q2]
    simp [dLE, dLg, List.dropLast_eq_take]

theorem marks_last {l : Lg} (hr : logR l = true) (hne : l.2.length ≠ 0) : ∃ k : Nat, l.2[l.2.length - 1]? = some (k : Int) ∧ k ≤ l.1.length ∧ l.2.getLast? = some (k : Int) := by
  have hx : l.2[l.2.length - 1]? = some l.2[l.2.length - 1] := List.getElem?_eq_getElem (by omega)
  have hoff : offI l.1.length l.2[l.2.length - 1] = false := by
    simp only [logR, Bool.and_eq_true, Bool.not_eq_true', List.any_eq_false] at hr
    simpa using hr.1.2 _ (List.getElem_mem (by omega : l.2.length - 1 < l.2.length))
  simp [offI] at hoff
  refine ⟨l.2[l.2.length - 1].toNat, ?_, by omega, ?_⟩
  · rw [hx]; congr 1; omega
  · rw [List.getLast?_eq_getElem?, hx]; congr 1; omega

theorem c_W_Back (l : Lg) (h1 : l.1.length ≤ 1000000) (h2 : l.2.length ≤ 1000000) : CSpec Tryz.prog 174 [dLg l] (dLE (logBack l)) := by
  have hK := c_W_Keep l h1 h2
  by_cases hm : logMarked l = 0
  · obtain ⟨hr, hne⟩ := logMarked_0 hm
    have hl' := logR_len hr
    obtain ⟨k, k1, k2, k3⟩ := marks_last hr hne
    rw [show logKeep l = ((l.1, l.2.dropLast), 0) by simp [logKeep, hm]] at hK
    have hw : IntKind.i64.wrap ((l.2.length : Int) - 1) = ((l.2.length - 1 : Nat) : Int) := by rw [wrap_in (by omega)]; omega
    simp only [dLE, dLg] at hK
    refine CSpec.of_awp envOf_ok hmix Tryz.func174 rfl (fun args w => Tryz.call174 args w) (by simp [Tryz.f174]) ?_
    simp only [Tryz.f174]
    simp (maxSteps := 2000000) -implicitDefEqProofs only [zz, zE, evop, ev, ofVal, tget, tput, ok, V.isUndef, initT, Ch.on, calleeOf, withArgs, hget, hput, V.cells, ↓reduceIte, Nat.reduceLT, Nat.reduceEqDiff, Nat.reduceAdd, Nat.reduceLeDiff, dLg]
    refine acall_ice (by first | rfl | (simp only [xports, xport, hget]; rfl)) (hK) ?_
    try simp (maxSteps := 2000000) -implicitDefEqProofs only [zz, zE, evop, ev, ofVal, tget, tput, ok, V.isUndef, intBin, Ch.on, told, tids, tidss, hget, hput, freeze, V.cells, V.one, splice, ↓reduceIte, Nat.reduceLT, Nat.reduceEqDiff, Nat.reduceAdd, Nat.reduceLeDiff, nilTest]
    refine wdraw_plan [⟨[], false, [17, 18, 19, 20, 21, 22, 23, 24], [], false⟩, ⟨[0], false, [17, 18, 19, 20, 21, 22, 23, 24], [], false⟩, ⟨[], false, [15, 16, 19, 20, 21, 22], [0, 1], false⟩, ⟨[2], false, [15, 16, 19, 20, 21, 22], [0, 1], false⟩, ⟨[], false, [15, 16, 17, 18], [0, 1, 2, 3], false⟩, ⟨[4], false, [15, 16, 17, 18], [0, 1, 2, 3], false⟩, ⟨[4, 5], false, [15, 16, 17, 18], [0, 1, 2, 3], false⟩, ⟨[4, 5, 6], false, [15, 16, 17, 18], [0, 1, 2, 3], false⟩, ⟨[2, 3, 4, 5, 6, 7], false, [15, 16], [0, 1], false⟩, ⟨[2, 3, 4, 5, 6, 7, 8], false, [15, 16], [0, 1], false⟩, ⟨[0, 1, 2, 3, 4, 5, 6, 7, 8, 9], true, [], [], false⟩, ⟨[0, 1, 2, 3, 4, 5, 6, 7, 8, 9, 10], true, [], [], false⟩, ⟨[0, 1, 2, 3, 4, 5, 6, 7, 8, 9, 10, 11], true, [], [], false⟩] (by decide) ?_
    simp (maxSteps := 2000000) -implicitDefEqProofs only [zz, zE, evop, ev, ofVal, tget, tput, ok, V.isUndef, intBin, Ch.on, xport, xports, hget, hput, V.cells, D.cells, V.isAgg, V.one, loadD, structAt, sliceOf, bound, Blk.width, lenOf, splice, resOf, resV, resVs, ↓reduceIte, reduceCtorEq, Nat.reduceLT, Nat.reduceEqDiff, Nat.reduceAdd, Nat.reduceLeDiff, dI, hw, List.getElem?_map, k1, Option.map_some, Int.natCast_nonneg]
    refine ⟨⟨by omega, by omega, fun e he => ?_⟩, ?_⟩
    · obtain ⟨x, _, rfl⟩ := List.mem_map.1 he
      rfl
    · rw [show logBack l = ((l.1.take ((l.2.getLast?).getD 0).toNat, l.2.dropLast), 0) by simp [logBack, hm], k3]
      have q2 : ((k : Int) - 0).toNat = k := by omega
      rw [q2]
      simp [dLE, dLg]
  · rw [show logKeep l = (l, logMarked l) by simp [logKeep, hm]] at hK
    rw [show logBack l = (l, logMarked l) by simp [logBack, hm]]
    simp only [dLE, dLg] at hK
    refine CSpec.of_awp envOf_ok hmix Tryz.func174 rfl (fun args w => Tryz.call174 args w) (by simp [Tryz.f174]) ?_
    simp only [Tryz.f174]
    simp (maxSteps := 2000000) -implicitDefEqProofs only [zz, zE, evop, ev, ofVal, tget, tput, ok, V.isUndef, initT, Ch.on, calleeOf, withArgs, hget, hput, V.cells, ↓reduceIte, Nat.reduceLT, Nat.reduceEqDiff, Nat.reduceAdd, Nat.reduceLeDiff, dLg]
    refine acall_ice (by first | rfl | (simp only [xports, xport, hget]; rfl)) (hK) ?_
    try simp (maxSteps := 2000000) -implicitDefEqProofs only [zz, zE, evop, ev, ofVal, tget, tput, ok, V.isUndef, intBin, Ch.on, told, xport, xports, tids, tidss, hget, hput, freeze, V.cells, V.one, splice, resOf, resV, resVs, ↓reduceIte, Nat.reduceLT, Nat.reduceEqDiff, Nat.reduceAdd, Nat.reduceLeDiff, nilTest]
    simp [hm, dLE, dLg]

theorem c_r06_Put (l : Lg) (w : Int × Int) (h1 : l.1.length ≤ 1000000) (h2 : l.2.length ≤ 1000000) : CSpec Tryz.prog 72 [dLg l, dW w] (dLE (logPut l w)) := by
  refine CSpec.of_awp envOf_ok hmix Tryz.func72 rfl (fun args w => Tryz.call72 args w) (by simp [Tryz.f72]) ?_
  simp only [Tryz.f72]
  simp (maxSteps := 2000000) -implicitDefEqProofs only [zz, zE, evop, ev, ofVal, tget, tput, ok, V.isUndef, initT, Ch.on, hput, V.cells, ↓reduceIte, reduceCtorEq, Nat.reduceLT, Nat.reduceEqDiff, Nat.reduceAdd, dW, dLg]
  refine wdraw_plan [⟨[], false, [11], [], false⟩, ⟨[0], false, [11], [], false⟩, ⟨[], false, [9, 10], [0, 1], false⟩, ⟨[0, 1, 2], true, [], [], false⟩, ⟨[0, 1, 2, 3], true, [], [], false⟩, ⟨[0, 1, 2, 3, 4], true, [], [], false⟩] (by decide) ?_
  simp (maxSteps := 2000000) -implicitDefEqProofs only [zz, zE, evop, ev, ofVal, tget, tput, ok, V.isUndef, calleeOf, withArgs, hget, hput, ↓reduceIte, Nat.reduceLT, Nat.reduceEqDiff, Nat.reduceAdd, Nat.reduceLeDiff]
  refine dcall_flat (by first | rfl | (simp only [xports, xport, hget]; rfl)) (c_r06_Right l h1 h2) rfl ?_
  try skip
  refine acall_flat (by first | rfl | (simp only [xports, xport, hget]; rfl)) (c_r06_one w) rfl ?_
  try simp (maxSteps := 2000000) -implicitDefEqProofs only [zz, zE, evop, ev, ofVal, tget, tput, ok, V.isUndef, intBin, guardOf, Ch.on, told, xport, xports, hget, hput, V.cells, D.cells, V.one, V.clo, clos, V.toD, structAt, sliceOf, partsD, partsV, Blk.width, elems, lenOf, splice, resOf, resV, resVs, ↓reduceIte, reduceCtorEq, Nat.reduceLT, Nat.reduceEqDiff, Nat.reduceAdd, Nat.reduceMul, Nat.reduceLeDiff, nilTest]
  split
  · rename_i hr
    simp only [Bool.not_eq_eq_eq_not, Bool.not_false] at hr
    split
    · rename_i hw
      have : logPut l w = (l, 1) := by simp [logPut] at hw ⊢; simp [hw]
      simp [this, dLE, dLg]
    · rename_i hw
      have hw' : wrongW w = false := by simpa using hw
      split
      · rename_i hl
        have hl' := logR_len hr
        have : logPut l w = (l, 5) := by simp [logPut, hr, hw']; omega
        simp [this, dLE, dLg]
      · rename_i hl
        have hl' := logR_len hr
        have e : logPut l w = ((l.1 ++ [w], l.2), 0) := by simp [logPut, hr, hw']; omega
        refine ⟨⟨by omega, okEl_W _⟩, ⟨by omega, fun e he => ?_⟩, ?_⟩
        · obtain rfl : e = _ := by simpa using he
          rfl
        · rw [e, List.take_of_length_le (by simp), List.take_of_length_le (by simp)]
          simp [dLE, dLg, dW]
  · rename_i hr
    have : logPut l w = (l, 1) := by simp [logPut] at hr ⊢; simp [hr]
    simp [this, dLE, dLg]

theorem c_r06_Mark (l : Lg) (h1 : l.1.length ≤ 1000000) (h2 : l.2.length ≤ 1000000) : CSpec Tryz.prog 74 [dLg l] (dLE (logMark l)) := by
  refine CSpec.of_awp envOf_ok hmix Tryz.func74 rfl (fun args w => Tryz.call74 args w) (by simp [Tryz.f74]) ?_
  simp only [Tryz.f74]
  simp (maxSteps := 2000000) -implicitDefEqProofs only [zz, zE, evop, ev, ofVal, tget, tput, ok, V.isUndef, initT, Ch.on, calleeOf, withArgs, hget, hput, V.cells, ↓reduceIte, Nat.reduceLT, Nat.reduceEqDiff, Nat.reduceAdd, Nat.reduceLeDiff, dLg]
  refine acall_flat (by first | rfl | (simp only [xports, xport, hget]; rfl)) (c_r06_Right l h1 h2) rfl ?_
  try simp (maxSteps := 2000000) -implicitDefEqProofs only [zz, zE, evop, ev, ofVal, tget, tput, ok, V.isUndef, intBin, Ch.on, told, xport, xports, hget, hput, V.cells, D.cells, V.one, V.toD, structAt, sliceOf, partsD, partsV, Blk.width, elems, lenOf, splice, resOf, resV, resVs, ↓reduceIte, reduceCtorEq, Nat.reduceLT, Nat.reduceEqDiff, Nat.reduceAdd, Nat.reduceMul, Nat.reduceLeDiff, nilTest]
  split
  · rename_i hr
    have : logMark l = (l, 1) := by simp [logMark] at hr ⊢; simp [hr]
    simp [this, dLE, dLg]
  · rename_i hr
    have hr : logR l = true := by simpa using hr
    have hl' := logR_len hr
    split
    · rename_i hl
      have : logMark l = (l, 5) := by simp [logMark, hr]; omega
      simp [this, dLE, dLg]
    · rename_i hl
      have e : logMark l = ((l.1, l.2 ++ [(l.1.length : Int)]), 0) := by simp [logMark, hr]; omega
      refine ⟨⟨by omega, okEl_I _⟩, ⟨by omega, fun e he => ?_⟩, ?_⟩
      · obtain rfl : e = _ := by simpa using he
        rfl
      · rw [e, List.take_of_length_le (by simp), List.take_of_length_le (by simp)]
        simp [dLE, dLg, dI]

theorem c_r06_Back (l : Lg) (keep : Bool) (h1 : l.1.length ≤ 1000000) (h2 : l.2.length ≤ 1000000) : CSpec Tryz.prog 108 [dLg l, .bool keep] (dLE (if keep = true then logKeep l else logBack l)) := by
  by_cases hm : logMarked l = 0
  · obtain ⟨hr, hne⟩ := logMarked_0 hm
    have hl' := logR_len hr
    obtain ⟨k, k1, k2, k3⟩ := marks_last hr hne
    have hw : IntKind.i64.wrap ((l.2.length : Int) - 1) = ((l.2.length - 1 : Nat) : Int) := by rw [wrap_in (by omega)]; omega
    rw [show logKeep l = ((l.1, l.2.dropLast), 0) by simp [logKeep, hm], show logBack l = ((l.1.take k, l.2.dropLast), 0) by simp [logBack, hm, k3]]
    refine CSpec.of_awp envOf_ok hmix Tryz.func108 rfl (fun args w => Tryz.call108 args w) (by simp [Tryz.f108]) ?_
    simp only [Tryz.f108]
    simp (maxSteps := 2000000) -implicitDefEqProofs only [zz, zE, evop, ev, ofVal, tget, tput, ok, V.isUndef, initT, Ch.on, calleeOf, withArgs, hget, hput, V.cells, ↓reduceIte, Nat.reduceLT, Nat.reduceEqDiff, Nat.reduceAdd, Nat.reduceLeDiff, dLg]
    refine acall_flat (by first | rfl | (simp only [xports, xport, hget]; rfl)) (c_r06_Right l h1 h2) rfl ?_
    try simp (maxSteps := 2000000) -implicitDefEqProofs only [zz, zE, evop, ev, ofVal, tget, tput, ok, V.isUndef, intBin, Ch.on, told, xport, xports, hget, hput, V.cells, V.one, structAt, sliceOf, Blk.width, lenOf, splice, resOf, resV, resVs, ↓reduceIte, reduceCtorEq, Nat.reduceLT, Nat.reduceEqDiff, Nat.reduceAdd, Nat.reduceLeDiff, nilTest]
    have hne' : ((l.2.length : Int) == 0) = false := by rw [beq_eq_false_iff_ne]; omega
    simp (maxSteps := 2000000) -implicitDefEqProofs only [zz, ↓reduceIte, hr, hne']
    split
    · refine wdraw_plan [⟨[], false, [22, 23, 24, 25, 26], [], false⟩, ⟨[0], false, [22, 23, 24, 25, 26], [], false⟩, ⟨[], false, [20, 21, 24, 25], [0, 1], false⟩, ⟨[2], false, [20, 21, 24, 25], [0, 1], false⟩, ⟨[], false, [20, 21, 22, 23], [0, 1, 2, 3], false⟩, ⟨[4], false, [20, 21, 22, 23], [0, 1, 2, 3], false⟩, ⟨[2, 3, 4, 5], false, [20, 21], [0, 1], false⟩, ⟨[0, 1, 2, 3, 4, 5, 6], true, [], [], false⟩, ⟨[0, 1, 2, 3, 4, 5, 6, 7], true, [], [], false⟩, ⟨[0, 1, 2, 3, 4, 5, 6, 7, 8], true, [], [], false⟩] (by decide) ?_
      simp (maxSteps := 2000000) -implicitDefEqProofs only [zz, zE, evop, ev, ofVal, tget, tput, ok, V.isUndef, intBin, Ch.on, xport, xports, hget, hput, V.cells, D.cells, V.isAgg, V.one, loadD, structAt, sliceOf, partsV, bound, Blk.width, lenOf, splice, resOf, resV, resVs, ↓reduceIte, reduceCtorEq, Nat.reduceLT, Nat.reduceEqDiff, Nat.reduceAdd, Nat.reduceLeDiff, hw, Int.natCast_nonneg]
      have q2 : (((l.2.length - 1 : Nat) : Int) - 0).toNat = l.2.length - 1 := by omega
      refine ⟨⟨by omega, by omega, fun e he => ?_⟩, ?_⟩
      · obtain ⟨x, _, rfl⟩ := List.mem_map.1 he
        rfl
      · rw [q2]; simp [dLE, dLg, List.dropLast_eq_take]
    · refine wdraw_plan [⟨[], false, [30, 31, 32, 33, 34, 35, 37, 38, 39, 40, 41], [], false⟩, ⟨[0], false, [30, 31, 32, 33, 34, 35, 37, 38, 39, 40, 41], [], false⟩, ⟨[], false, [28, 29, 32, 33, 37, 38, 39, 40, 41], [0, 1], false⟩, ⟨[2], false, [28, 29, 32, 33, 37, 38, 39, 40, 41], [0, 1], false⟩, ⟨[], false, [28, 29, 30, 31, 37, 38, 39, 40, 41], [0, 1, 2, 3], false⟩, ⟨[4], false, [28, 29, 30, 31, 37, 38, 39, 40, 41], [0, 1, 2, 3], false⟩, ⟨[2, 3, 4, 5], false, [28, 29, 37, 38, 39, 40, 41], [0, 1], false⟩, ⟨[2, 3, 4, 5, 6], false, [28, 29, 37, 38, 39, 40, 41], [0, 1], false⟩, ⟨[0, 1, 2, 3, 4, 5, 6, 7], false, [37, 38, 39, 40, 41], [], false⟩, ⟨[], false, [28, 29, 30, 31, 32, 33, 34, 35, 36, 39, 40], [0, 1, 2, 3, 4, 5, 6, 7, 8], false⟩, ⟨[9], false, [28, 29, 30, 31, 32, 33, 34, 35, 36, 39, 40], [0, 1, 2, 3, 4, 5, 6, 7, 8], false⟩, ⟨[], false, [28, 29, 30, 31, 32, 33, 34, 35, 36, 37, 38], [0, 1, 2, 3, 4, 5, 6, 7, 8, 9, 10], false⟩, ⟨[11], false, [28, 29, 30, 31, 32, 33, 34, 35, 36, 37, 38], [0, 1, 2, 3, 4, 5, 6, 7, 8, 9, 10], false⟩, ⟨[9, 10, 11, 12], false, [28, 29, 30, 31, 32, 33, 34, 35, 36], [0, 1, 2, 3, 4, 5, 6, 7, 8], false⟩, ⟨[0, 1, 2, 3, 4, 5, 6, 7, 8, 9, 10, 11, 12, 13], true, [], [], false⟩, ⟨[0, 1, 2, 3, 4, 5, 6, 7, 8, 9, 10, 11, 12, 13, 14], true, [], [], false⟩, ⟨[0, 1, 2, 3, 4, 5, 6, 7, 8, 9, 10, 11, 12, 13, 14, 15], true, [], [], false⟩] (by decide) ?_
      simp (maxSteps := 2000000) -implicitDefEqProofs only [zz, zE, evop, ev, ofVal, tget, tput, ok, V.isUndef, intBin, Ch.on, xport, xports, hget, hput, V.cells, D.cells, V.isAgg, V.one, loadD, structAt, sliceOf, partsV, bound, Blk.width, lenOf, splice, resOf, resV, resVs, ↓reduceIte, reduceCtorEq, Nat.reduceLT, Nat.reduceEqDiff, Nat.reduceAdd, Nat.reduceLeDiff, dI, hw, List.getElem?_map, k1, Option.map_some, Int.natCast_nonneg]
      have q1 : ((k : Int) - 0).toNat = k := by omega
      have q2 : (((l.2.length - 1 : Nat) : Int) - 0).toNat = l.2.length - 1 := by omega
      refine ⟨⟨by omega, by omega, fun e he => ?_⟩, ⟨by omega, by omega, fun e he => ?_⟩, ?_⟩
      · obtain ⟨x, _, rfl⟩ := List.mem_map.1 he
        rfl
      · obtain ⟨x, _, rfl⟩ := List.mem_map.1 he
        rfl
      · rw [q1, q2]; simp [dLE, dLg, List.dropLast_eq_take]
  · have e : (if keep = true then logKeep l else logBack l) = (l, logMarked l) := by simp [logKeep, logBack, hm]
    rw [e]
    refine CSpec.of_awp envOf_ok hmix Tryz.func108 rfl (fun args w => Tryz.call108 args w) (by simp [Tryz.f108]) ?_
    simp only [Tryz.f108]
    simp (maxSteps := 2000000) -implicitDefEqProofs only [zz, zE, evop, ev, ofVal, tget, tput, ok, V.isUndef, initT, Ch.on, calleeOf, withArgs, hget, hput, V.cells, ↓reduceIte, Nat.reduceLT, Nat.reduceEqDiff, Nat.reduceAdd, Nat.reduceLeDiff, dLg]
    refine acall_flat (by first | rfl | (simp only [xports, xport, hget]; rfl)) (c_r06_Right l h1 h2) rfl ?_
    try simp (maxSteps := 2000000) -implicitDefEqProofs only [zz, zE, evop, ev, ofVal, tget, tput, ok, V.isUndef, intBin, Ch.on, told, xport, xports, hget, hput, V.cells, V.one, structAt, sliceOf, Blk.width, lenOf, splice, resOf, resV, resVs, ↓reduceIte, reduceCtorEq, Nat.reduceLT, Nat.reduceEqDiff, Nat.reduceAdd, Nat.reduceLeDiff, nilTest]
    unfold logMarked at hm ⊢
    cases hr : logR l
    · simp (maxSteps := 2000000) -implicitDefEqProofs only [zz, ↓reduceIte]
      simp [dLE, dLg]
    · rw [hr] at hm
      have h0 : l.2.length = 0 := by
        rcases Nat.eq_zero_or_pos l.2.length with h | h
        · exact h
        · exact absurd (by rw [if_pos rfl, if_neg (by omega)]) hm
      have h0' : ((l.2.length : Int) == 0) = true := by simp [h0]
      simp (maxSteps := 2000000) -implicitDefEqProofs only [zz, ↓reduceIte, h0]
      simp [dLE, dLg]

end Go.Proofs.YtjhfpabldidlgaaGreat.AM

/- Slices, turned and sorted. -/
set_option linter.all false
set_option maxRecDepth 100000
set_option maxHeartbeats 4000000
namespace Go.Proofs.YtjhfpabldidlgaaGreat.AM
open Go Go.RowKit

theorem set_dW (l : List (Int × Int)) (i : Nat) (a : Int × Int) : (l.map dW).set i (.agg [.int .i64 a.1, .int .i64 a.2]) = (l.set i a).map dW := by
  rw [List.map_set]; rfl

theorem r_Reverse_W (ws : List (Int × Int)) (hl : ws.length ≤ 1000000) : RSpec Tryz.prog 129 [.own 0 0 ws.length] [.dat false 2 (ws.map dW)] (.tuple []) [.dat false 2 (ws.reverse.map dW)] := by
  refine RSpec.of_awp envOf_ok hmix Tryz.func129 rfl (fun args w => Tryz.call129 args w) (by simp [Tryz.f129]) ?_
  simp only [Tryz.f129]
  simp (maxSteps := 2000000) -implicitDefEqProofs only [zz, zE, evop, ev, ofVal, tget, tput, ok, V.isUndef, intBin, Ch.on, hget, sliceOf, lenOf, ↓reduceIte, Nat.reduceLT, Nat.reduceEqDiff, nilTest, initV]
  have hw0 : IntKind.i64.wrap ((ws.length : Int) - 1) = (ws.length : Int) - 1 := wrap_in (by omega)
  refine wloop_ind (σ := Nat × List (Int × Int)) (fun s => ws.length - s.1) (fun s => [(2, .d (.int .i64 s.1)), (3, .d (.int .i64 ((ws.length : Int) - 1 - s.1))), (0, .own 0 0 ws.length)]) (fun s => [.dat false 2 (s.2.map dW)])
    (fun s => s.1 ≤ ws.length ∧ s.2.length = ws.length ∧ ∀ k, k < ws.length → s.2[k]? = if k < s.1 ∨ ws.length ≤ k + s.1 then ws[ws.length - 1 - k]? else ws[k]?) (0, ws) ⟨Nat.zero_le _, rfl, fun k hk => by rw [if_neg (by simp; omega)]⟩ (Weak.sub (by simp [tget, hw0])) ?_
  rintro ⟨i, cur⟩ ⟨hi, hc, hk⟩
  simp only at hi hc hk
  rcases Int.lt_or_le (i : Int) ((ws.length : Int) - 1 - i) with h | h
  · have hj' : ((ws.length : Int) - 1 - (i : Int)) = ((ws.length - 1 - i : Nat) : Int) := by omega
    have hlt : ((i : Int) < ((ws.length - 1 - i : Nat) : Int)) := by omega
    have hij : i < ws.length - 1 - i := by omega
    have hgi : cur[i]? = some cur[i] := List.getElem?_eq_getElem (by omega)
    have hgj : cur[ws.length - 1 - i]? = some (cur[ws.length - 1 - i]'(by omega)) := List.getElem?_eq_getElem (by omega)
    have hgj2 : (cur.set i (cur[ws.length - 1 - i]'(by omega)))[ws.length - 1 - i]? = some (cur[ws.length - 1 - i]'(by omega)) := by
      rw [List.getElem?_set_ne (by omega)]; exact hgj
    simp (maxSteps := 2000000) -implicitDefEqProofs only [zz, evop, ev, tget, tput, ok, V.isUndef, intBin, Ch.on, told, ↓reduceIte, Nat.reduceLT, Nat.reduceEqDiff, nilTest, hj', hlt]
    refine wdraw_plan [⟨[], false, [15, 16, 17, 18, 19, 20, 21, 22, 23, 24, 25], [], false⟩, ⟨[], false, [14, 16, 17, 18, 19, 20, 21, 22, 23, 24, 25], [0], false⟩, ⟨[], false, [14, 15, 16, 17, 18, 19, 20, 21, 22, 23, 24, 25, 26, 27], [0, 1], true⟩, ⟨[], false, [14, 15, 16, 17, 18, 19, 20, 21, 22, 23, 24, 25, 26, 27], [0, 1, 2], true⟩, ⟨[], false, [14, 15, 16, 17, 19, 22, 23, 24, 25], [0, 1, 2, 3], false⟩, ⟨[], false, [14, 15, 16, 17, 18, 22, 23, 24, 25], [0, 1, 2, 3, 4], false⟩, ⟨[4, 5], false, [14, 15, 16, 17, 22, 23, 24, 25], [0, 1, 2, 3], false⟩, ⟨[4, 5, 6], false, [14, 15, 16, 17, 22, 23, 24, 25], [0, 1, 2, 3], false⟩, ⟨[], false, [14, 15, 16, 17, 18, 19, 20, 21, 23], [0, 1, 2, 3, 4, 5, 6, 7], false⟩, ⟨[], false, [14, 15, 16, 17, 18, 19, 20, 21, 22], [0, 1, 2, 3, 4, 5, 6, 7, 8], false⟩, ⟨[8, 9], false, [14, 15, 16, 17, 18, 19, 20, 21], [0, 1, 2, 3, 4, 5, 6, 7], false⟩, ⟨[8, 9, 10], false, [14, 15, 16, 17, 18, 19, 20, 21], [0, 1, 2, 3, 4, 5, 6, 7], false⟩, ⟨[0, 1, 4, 5, 6, 7, 8, 9, 10, 11], false, [16, 17], [2, 3], false⟩, ⟨[0, 1, 4, 5, 6, 7, 8, 9, 10, 11, 12], true, [16, 17], [], false⟩, ⟨[0, 1, 2, 3, 4, 5, 6, 7, 8, 9, 10, 11, 12, 13], true, [], [], false⟩, ⟨[0, 1, 2, 3, 4, 5, 6, 7, 8, 9, 10, 11, 12, 13, 14], true, [], [], false⟩] (by decide) ?_
    simp (maxSteps := 2000000) -implicitDefEqProofs only [zz, zE, evop, ev, ofVal, tget, tput, ok, V.isUndef, intBin, Ch.on, hget, hput, V.cells, D.cells, V.one, V.clo, clos, loadD, Blk.width, splice, D.over, ↓reduceIte, reduceCtorEq, Nat.reduceLT, Nat.reduceEqDiff, Nat.reduceAdd, Nat.reduceLeDiff, nilTest, dW, List.getElem?_map, hgi, hgj, hgj2, Option.map_some, Int.natCast_nonneg, set_dW]
    have hwi : IntKind.i64.wrap ((i : Int) + 1) = ((i + 1 : Nat) : Int) := by rw [wrap_in (by omega)]; omega
    have hwj : IntKind.i64.wrap (((ws.length - 1 - i : Nat) : Int) - 1) = (ws.length : Int) - 1 - ((i + 1 : Nat) : Int) := by rw [wrap_in (by omega)]; omega
    refine ⟨by omega, by omega, by omega, by omega, (i + 1, (cur.set i (cur[ws.length - 1 - i]'(by omega))).set (ws.length - 1 - i) cur[i]), ⟨by simp only; omega, by simp [hc], fun k hkl => ?_⟩, by simp only; omega, Weak.trimsM 1 (by simp) rfl (by simp [tget, hwi, hwj, V.lower]) (by simp [Blk.lower])⟩
    by_cases h1 : ws.length - 1 - i = k
    · subst h1
      rw [List.getElem?_set_self (by simp; omega)]
      rw [if_pos (by simp only; omega)]
      have := hk i (by omega)
      rw [if_neg (by omega), hgi] at this
      have e : ws.length - 1 - (ws.length - 1 - i) = i := by omega
      rw [e, this]
    · rw [List.getElem?_set_ne h1]
      by_cases h2 : i = k
      · subst h2
        rw [List.getElem?_set_self (by omega), if_pos (by simp only; omega)]
        have := hk (ws.length - 1 - i) (by omega)
        rw [if_neg (by omega), hgj] at this
        rw [this]
      · rw [List.getElem?_set_ne h2, hk k hkl]
        have : (k < i ∨ ws.length ≤ k + i) ↔ (k < i + 1 ∨ ws.length ≤ k + (i + 1)) := by omega
        simp only [this]
  · have h' : ¬ ((i : Int) < (ws.length : Int) - 1 - (i : Int)) := by omega
    simp (maxSteps := 2000000) -implicitDefEqProofs only [zz, evop, ev, tget, tput, ok, V.isUndef, intBin, Ch.on, told, resOf, resVs, ↓reduceIte, Nat.reduceLT, Nat.reduceEqDiff, nilTest, h']
    have : cur = ws.reverse := by
      apply List.ext_getElem?
      intro k
      rcases Nat.lt_or_ge k ws.length with hkl | hkl
      · rw [hk k hkl, List.getElem?_reverse (by omega)]
        split
        · rfl
        · rename_i hn
          have : ws.length - 1 - k = k := by omega
          rw [this]
      · rw [List.getElem?_eq_none (by omega), List.getElem?_eq_none (by simp; omega)]
    rw [this]
    exact Weak.sub (by simp [tget])

end Go.Proofs.YtjhfpabldidlgaaGreat.AM

/- Sorting by insertion. -/
set_option linter.all false
set_option maxRecDepth 100000
set_option maxHeartbeats 4000000
namespace Go.Proofs.YtjhfpabldidlgaaGreat.AM
open Go Go.RowKit

section
variable {α : Type}

/-- Where x belongs: ahead of the last ones that it is less than. -/
def insK (lt : α → α → Bool) (x : α) (A : List α) : Nat := A.length - (A.reverse.takeWhile (lt x)).length
def insR (lt : α → α → Bool) (x : α) (A : List α) : List α := A.take (insK lt x A) ++ x :: A.drop (insK lt x A)
def isort (lt : α → α → Bool) (l : List α) : List α := l.foldl (fun A x => insR lt x A) []

theorem takeWhile_len {p : α → Bool} : ∀ (l : List α) (k : Nat), k ≤ l.length → (∀ i, i < k → ∀ y, l[i]? = some y → p y = true) → (∀ y, l[k]? = some y → p y = false) → (l.takeWhile p).length = k
  | [], k, h, _, _ => by simp at h; simp [h]
  | a :: l, 0, h, _, h2 => by
    have := h2 a rfl
    simp [List.takeWhile_cons, this]
  | a :: l, k + 1, h, h1, h2 => by
    have ha := h1 0 (by omega) a rfl
    rw [List.takeWhile_cons, if_pos ha, List.length_cons, takeWhile_len l k (by simpa using h) (fun i hi y hy => h1 (i + 1) (by omega) y (by simpa using hy)) (fun y hy => h2 y (by simpa using hy))]

theorem insK_eq {lt : α → α → Bool} {x : α} {A : List α} {k : Nat} (hk : k ≤ A.length) (h1 : ∀ i, k ≤ i → ∀ y, A[i]? = some y → lt x y = true) (h2 : k = 0 ∨ ∃ y, A[k - 1]? = some y ∧ lt x y = false) : insK lt x A = k := by
  unfold insK
  rw [takeWhile_len A.reverse (A.length - k) (by simp) (fun i hi y hy => ?_) (fun y hy => ?_)]
  · omega
  · rw [List.getElem?_reverse (by omega)] at hy
    exact h1 _ (by omega) y hy
  · have hlt : A.length - k < A.reverse.length := (List.getElem?_eq_some_iff.1 hy).1
    simp at hlt
    rw [List.getElem?_reverse (by omega)] at hy
    rcases h2 with h2 | ⟨z, hz, hz2⟩
    · omega
    · have e : A.length - 1 - (A.length - k) = k - 1 := by omega
      rw [e, hz] at hy; cases hy; exact hz2

/-- The list while x goes to its place. -/
def insAt (P A R : List α) (x : α) (k : Nat) : List α := P ++ (A.take k ++ x :: A.drop k) ++ R

theorem insAt_length {P A R : List α} {x : α} {k : Nat} (hk : k ≤ A.length) : (insAt P A R x k).length = P.length + A.length + 1 + R.length := by
  simp [insAt]; omega

theorem insAt_get {P A R : List α} {x : α} {k : Nat} (hk : k ≤ A.length) (i : Nat) : (insAt P A R x k)[i]? = if i < P.length then P[i]? else if i < P.length + k then A[i - P.length]? else if i = P.length + k then some x else if i ≤ P.length + A.length then A[i - P.length - 1]? else R[i - P.length - A.length - 1]? := by
  unfold insAt
  rw [List.append_assoc, List.getElem?_append]
  by_cases h1 : i < P.length
  · rw [if_pos h1, if_pos h1]
  · rw [if_neg h1, if_neg h1, List.getElem?_append]
    have hl : (A.take k ++ x :: A.drop k).length = A.length + 1 := by simp; omega
    rw [hl, List.getElem?_append]
    have hl2 : (A.take k).length = k := by simp; omega
    rw [hl2]
    by_cases h2 : i < P.length + k
    · rw [if_pos (by omega), if_pos (by omega), if_pos h2, List.getElem?_take, if_pos (by omega)]
    · rw [if_neg h2]
      by_cases h3 : i = P.length + k
      · rw [if_pos (by omega), if_neg (by omega), if_pos h3]
        have : i - P.length - k = 0 := by omega
        rw [this]; rfl
      · rw [if_neg h3]
        by_cases h4 : i ≤ P.length + A.length
        · rw [if_pos (by omega), if_neg (by omega), if_pos h4]
          obtain ⟨d, hd⟩ : ∃ d, i - P.length - k = d + 1 := ⟨i - P.length - k - 1, by omega⟩
          rw [hd, List.getElem?_cons_succ, List.getElem?_drop]
          congr 1; omega
        · rw [if_neg (by omega), if_neg h4]
          congr 1

theorem insAt_swap {P A R : List α} {x y : α} {k : Nat} (hk : k + 1 ≤ A.length) (hy : A[k]? = some y) : ((insAt P A R x (k + 1)).set (P.length + k + 1) y).set (P.length + k) x = insAt P A R x k := by
  apply List.ext_getElem?
  intro i
  have hlen := insAt_length (P := P) (R := R) (x := x) hk
  by_cases h1 : P.length + k = i
  · subst h1
    rw [List.getElem?_set_self (by simp; omega), insAt_get (by omega), if_neg (by omega), if_neg (by omega), if_pos rfl]
  · rw [List.getElem?_set_ne h1]
    by_cases h2 : P.length + k + 1 = i
    · subst h2
      rw [List.getElem?_set_self (by omega), insAt_get (by omega), if_neg (by omega), if_neg (by omega), if_neg (by omega), if_pos (by omega)]
      have : P.length + k + 1 - P.length - 1 = k := by omega
      rw [this, hy]
    · rw [List.getElem?_set_ne h2, insAt_get hk, insAt_get (by omega)]
      by_cases h3 : i < P.length
      · rw [if_pos h3, if_pos h3]
      · rw [if_neg h3, if_neg h3]
        by_cases h4 : i < P.length + k
        · rw [if_pos (by omega), if_pos h4]
        · have f1 : ¬ i < P.length + (k + 1) := by omega
          have f2 : ¬ i = P.length + (k + 1) := by omega
          have f3 : ¬ i = P.length + k := by omega
          simp only [f1, f2, f3, h4, if_false]

end

theorem isort_snoc {α : Type} (lt : α → α → Bool) (l : List α) (x : α) : isort lt (l ++ [x]) = insR lt x (isort lt l) := by simp [isort]
theorem insR_length {α : Type} (lt : α → α → Bool) (x : α) (A : List α) : (insR lt x A).length = A.length + 1 := by
  simp [insR]; unfold insK; omega
theorem isort_length {α : Type} (lt : α → α → Bool) : ∀ (l : List α), (isort lt l).length = l.length := by
  intro l
  have : ∀ (l A : List α), (l.foldl (fun A x => insR lt x A) A).length = A.length + l.length := by
    intro l
    induction l with
    | nil => intro A; simp
    | cons x l ih => intro A; simp only [List.foldl_cons]; rw [ih, insR_length]; simp; omega
  simpa [isort] using this l []

/-- A slice's part, sorted. -/
def sortPart (lt : Int × Int → Int × Int → Bool) (ws : List (Int × Int)) (a b : Nat) : List (Int × Int) := ws.take a ++ isort lt ((ws.drop a).take (b - a)) ++ ws.drop b

theorem r_insertion_W (ws : List (Int × Int)) (a b : Nat) (hab : a ≤ b) (hb : b ≤ ws.length) (hl : ws.length ≤ 1000000) (f : Nat) (c : Int × Int → Int × Int → Int)
    (hc : ∀ x y, CSpec Tryz.prog f [dW x, dW y] (.int .i64 (c x y))) : RSpec Tryz.prog 219 [.own 0 0 ws.length, .d (.int .i64 a), .d (.int .i64 b), .func (f, 0) []] [.dat false 2 (ws.map dW)] (.tuple [])
      [.dat false 2 ((sortPart (fun x y => decide (c x y < 0)) ws a b).map dW)] := by
  refine RSpec.of_awp envOf_ok hmix Tryz.func219 rfl (fun args w => Tryz.call219 args w) (by simp [Tryz.f219]) ?_
  simp only [Tryz.f219]
  simp (maxSteps := 2000000) -implicitDefEqProofs only [zz, evop, ev, ofVal, tget, tput, ok, V.isUndef, intBin, Ch.on, ↓reduceIte, reduceCtorEq, Nat.reduceLT, Nat.reduceAdd, nilTest, initV]
  have hw0 : IntKind.i64.wrap ((a : Int) + 1) = ((a + 1 : Nat) : Int) := by rw [wrap_in (by omega)]; omega
  let lt : Int × Int → Int × Int → Bool := fun x y => decide (c x y < 0)
  rcases Nat.eq_or_lt_of_le hab with hab' | hab'
  · subst hab'
    have e0 : sortPart (fun x y => decide (c x y < 0)) ws a a = ws := by simp [sortPart, isort]
    refine wloop_count 0 (fun i => [(8, .d (.int .i64 ((a + 1 : Nat) : Int))), (0, .own 0 0 ws.length), (1, .d (.int .i64 a)), (2, .d (.int .i64 a)), (3, .func (f, 0) [])]) (fun i => [.dat false 2 (ws.map dW)]) (fun i => True) trivial (Weak.sub (by simp [tget, hw0])) (fun i hi _ => by omega) (fun _ => ?_)
    have h' : ¬ (((a + 1 : Nat) : Int) < (a : Int)) := by omega
    simp (maxSteps := 2000000) -implicitDefEqProofs only [zz, evop, ev, tget, tput, ok, V.isUndef, intBin, Ch.on, told, resOf, resVs, ↓reduceIte, reduceCtorEq, Nat.reduceLT, Nat.reduceEqDiff, nilTest, h', e0]
    exact Weak.sub (by simp [tget])
  refine wloop_count (b - (a + 1)) (fun i => [(8, .d (.int .i64 ((a + 1 + i : Nat) : Int))), (0, .own 0 0 ws.length), (1, .d (.int .i64 a)), (2, .d (.int .i64 b)), (3, .func (f, 0) [])]) (fun i => [.dat false 2 ((sortPart lt ws a (a + 1 + i)).map dW)]) (fun i => True) trivial ?_ (fun i hi _ => ?_) (fun _ => ?_)
  · have e1 : sortPart lt ws a (a + 1 + 0) = ws := by
      have h1 : (ws.drop a).take (a + 1 + 0 - a) = [ws[a]] := by
        have : a + 1 + 0 - a = 1 := by omega
        rw [this, List.drop_eq_getElem_cons (by omega)]; rfl
      unfold sortPart
      rw [h1]
      have h2 : isort lt [ws[a]] = [ws[a]] := rfl
      rw [h2, List.append_assoc, List.singleton_append, ← List.drop_eq_getElem_cons (by omega), List.take_append_drop]
    rw [e1]
    exact Weak.sub (by simp [tget, hw0])
  · have h' : (((a + 1 + i : Nat) : Int) < (b : Int)) := by omega
    have hlt : a + 1 + i < ws.length := by omega
    obtain ⟨x, hx⟩ : ∃ x, x = ws[a + 1 + i] := ⟨_, rfl⟩
    obtain ⟨A, hA⟩ : ∃ A, A = isort lt ((ws.drop a).take (a + 1 + i - a)) := ⟨_, rfl⟩
    have hAl : A.length = 1 + i := by rw [hA, isort_length]; simp; omega
    have hPl : (ws.take a).length = a := by simp; omega
    have e1 : sortPart lt ws a (a + 1 + i) = insAt (ws.take a) A (ws.drop (a + 1 + i + 1)) x A.length := by
      unfold sortPart insAt
      rw [← hA, List.take_of_length_le (Nat.le_refl _), List.drop_of_length_le (Nat.le_refl _), List.drop_eq_getElem_cons hlt, hx]
      simp
    have e2 : ∀ k, insK lt x A = k → sortPart lt ws a (a + 1 + (i + 1)) = insAt (ws.take a) A (ws.drop (a + 1 + i + 1)) x k := fun k hk => by
      unfold sortPart insAt
      have h1 : (ws.drop a).take (a + 1 + (i + 1) - a) = (ws.drop a).take (a + 1 + i - a) ++ [x] := by
        have h2 : a + 1 + (i + 1) - a = (a + 1 + i - a) + 1 := by omega
        rw [h2, List.take_add_one, List.getElem?_drop]
        have h3 : a + (a + 1 + i - a) = a + 1 + i := by omega
        rw [h3, List.getElem?_eq_getElem hlt, hx]; rfl
      rw [h1, isort_snoc, ← hA, insR, hk]
      have h4 : a + 1 + (i + 1) = a + 1 + i + 1 := by omega
      rw [h4]
    have hIl : ∀ k, k ≤ A.length → (insAt (ws.take a) A (ws.drop (a + 1 + i + 1)) x k).length = ws.length := fun k hk => by
      rw [insAt_length hk, hPl, hAl]; simp; omega
    have hwi : IntKind.i64.wrap (((a + 1 + i : Nat) : Int) + 1) = ((a + 1 + (i + 1) : Nat) : Int) := by rw [wrap_in (by omega)]; omega
    simp (maxSteps := 2000000) -implicitDefEqProofs only [zz, evop, ev, tget, tput, ok, V.isUndef, intBin, Ch.on, told, ↓reduceIte, reduceCtorEq, Nat.reduceLT, Nat.reduceEqDiff, nilTest, h', e1]
    refine wloop_ind (σ := Nat) (fun k => k) (fun k => [(9, .d (.int .i64 ((a + k : Nat) : Int))), (8, .d (.int .i64 ((a + 1 + i : Nat) : Int))), (0, .own 0 0 ws.length), (1, .d (.int .i64 a)), (2, .d (.int .i64 b)), (3, .func (f, 0) [])])
      (fun k => [.dat false 2 ((insAt (ws.take a) A (ws.drop (a + 1 + i + 1)) x k).map dW)]) (fun k => k ≤ A.length ∧ ∀ i, k ≤ i → ∀ y, A[i]? = some y → lt x y = true) A.length ⟨Nat.le_refl _, fun i hi y hy => by have := (List.getElem?_eq_some_iff.1 hy).1; omega⟩ (Weak.sub ?_) ?_
    · have : ((a + A.length : Nat) : Int) = ((a + 1 + i : Nat) : Int) := by omega
      simp [tget, this]
    rintro k ⟨hk, hgt⟩
    rcases Nat.eq_zero_or_pos k with hk0 | hk0
    · subst hk0
      have hf' : ¬ ((a : Int) < (a : Int)) := by omega
      have e3 := e2 0 (insK_eq (Nat.zero_le _) hgt (.inl rfl))
      simp (maxSteps := 2000000) -implicitDefEqProofs only [zz]
      refine wdraw_plan [⟨[], false, [19], [], false⟩, ⟨[], false, [18], [0], false⟩, ⟨[0, 1], true, [], [], false⟩, ⟨[0, 1, 2], true, [], [], false⟩, ⟨[0, 1, 2, 3], false, [23, 24, 25, 26, 27, 28, 29, 30, 31], [], false⟩, ⟨[0, 1, 2, 3], false, [22, 24, 27, 28, 29, 30, 31], [4], false⟩, ⟨[0, 1, 2, 3], false, [22, 23, 27, 28, 29, 30, 31], [4, 5], false⟩, ⟨[0, 1, 2, 3, 5, 6], false, [22, 27, 28, 29, 30, 31], [4], false⟩, ⟨[0, 1, 2, 3, 5, 6, 7], false, [22, 27, 28, 29, 30, 31], [4], false⟩, ⟨[0, 1, 2, 3], false, [22, 23, 24, 25, 26, 28, 29], [4, 5, 6, 7, 8], false⟩, ⟨[0, 1, 2, 3], false, [22, 23, 24, 25, 26, 27], [4, 5, 6, 7, 8, 9], false⟩, ⟨[0, 1, 2, 3, 10], false, [22, 23, 24, 25, 26, 27], [4, 5, 6, 7, 8, 9], false⟩, ⟨[0, 1, 2, 3, 9, 10, 11], false, [22, 23, 24, 25, 26], [4, 5, 6, 7, 8], false⟩, ⟨[0, 1, 2, 3, 9, 10, 11, 12], false, [22, 23, 24, 25, 26], [4, 5, 6, 7, 8], false⟩, ⟨[0, 1, 2, 3, 4, 5, 6, 7, 8, 9, 10, 11, 12, 13], false, [], [], false⟩, ⟨[0, 1, 2, 3, 4, 5, 6, 7, 8, 9, 10, 11, 12, 13, 14], false, [], [], false⟩, ⟨[0, 1, 2, 3, 4, 5, 6, 7, 8, 9, 10, 11, 12, 13, 14, 15], true, [], [], false⟩] (by decide) ?_
      simp (maxSteps := 2000000) -implicitDefEqProofs only [zz, zE, evop, ev, ofVal, tget, tput, ok, V.isUndef, intBin, guardOf, Ch.on, told, hput, V.cells, V.isAgg, ↓reduceIte, reduceCtorEq, Nat.reduceLT, Nat.reduceEqDiff, Nat.reduceAdd, Nat.reduceSub, Nat.reduceLeDiff, nilTest, hf']
      rw [e3]
      exact Weak.trimsM 1 (by simp) rfl (by simp [tget, V.lower, lowerL]; rw [wrap_in (by omega)]; omega) (by simp [Blk.lower])
    · obtain ⟨k, rfl⟩ : ∃ k', k = k' + 1 := ⟨k - 1, by omega⟩
      have hgy : A[k]? = some A[k] := List.getElem?_eq_getElem (by omega)
      obtain ⟨y, hy⟩ : ∃ y, y = A[k] := ⟨_, rfl⟩
      rw [← hy] at hgy
      have hg1 : (insAt (ws.take a) A (ws.drop (a + 1 + i + 1)) x (k + 1))[a + (k + 1)]? = some x := by
        rw [insAt_get hk, hPl, if_neg (by omega), if_neg (by omega), if_pos rfl]
      have hg0 : (insAt (ws.take a) A (ws.drop (a + 1 + i + 1)) x (k + 1))[a + k]? = some y := by
        rw [insAt_get hk, hPl, if_neg (by omega), if_pos (by omega)]
        have : a + k - a = k := by omega
        rw [this]; exact hgy
      have hg2 : ((insAt (ws.take a) A (ws.drop (a + 1 + i + 1)) x (k + 1)).set (a + (k + 1)) y)[a + k]? = some y := by
        rw [List.getElem?_set_ne (by omega)]; exact hg0
      have hsw : ((insAt (ws.take a) A (ws.drop (a + 1 + i + 1)) x (k + 1)).set (a + (k + 1)) y).set (a + k) x = insAt (ws.take a) A (ws.drop (a + 1 + i + 1)) x k := by
        have := insAt_swap (P := ws.take a) (R := ws.drop (a + 1 + i + 1)) (x := x) hk hgy
        rw [hPl] at this; exact this
      have hf' : ((a : Int) < ((a + (k + 1) : Nat) : Int)) := by omega
      have hw1 : IntKind.i64.wrap (((a + (k + 1) : Nat) : Int) - 1) = ((a + k : Nat) : Int) := by rw [wrap_in (by omega)]; omega
      simp (maxSteps := 2000000) -implicitDefEqProofs only [zz]
      refine wdraw_plan [⟨[], false, [19], [], false⟩, ⟨[], false, [18], [0], false⟩, ⟨[0, 1], true, [], [], false⟩, ⟨[0, 1, 2], true, [], [], false⟩, ⟨[0, 1, 2, 3], false, [23, 24, 25, 26, 27, 28, 29, 30, 31], [], false⟩, ⟨[0, 1, 2, 3], false, [22, 24, 27, 28, 29, 30, 31], [4], false⟩, ⟨[0, 1, 2, 3], false, [22, 23, 27, 28, 29, 30, 31], [4, 5], false⟩, ⟨[0, 1, 2, 3, 5, 6], false, [22, 27, 28, 29, 30, 31], [4], false⟩, ⟨[0, 1, 2, 3, 5, 6, 7], false, [22, 27, 28, 29, 30, 31], [4], false⟩, ⟨[0, 1, 2, 3], false, [22, 23, 24, 25, 26, 28, 29], [4, 5, 6, 7, 8], false⟩, ⟨[0, 1, 2, 3], false, [22, 23, 24, 25, 26, 27], [4, 5, 6, 7, 8, 9], false⟩, ⟨[0, 1, 2, 3, 10], false, [22, 23, 24, 25, 26, 27], [4, 5, 6, 7, 8, 9], false⟩, ⟨[0, 1, 2, 3, 9, 10, 11], false, [22, 23, 24, 25, 26], [4, 5, 6, 7, 8], false⟩, ⟨[0, 1, 2, 3, 9, 10, 11, 12], false, [22, 23, 24, 25, 26], [4, 5, 6, 7, 8], false⟩, ⟨[0, 1, 2, 3, 4, 5, 6, 7, 8, 9, 10, 11, 12, 13], false, [], [], false⟩, ⟨[0, 1, 2, 3, 4, 5, 6, 7, 8, 9, 10, 11, 12, 13, 14], false, [], [], false⟩, ⟨[0, 1, 2, 3, 4, 5, 6, 7, 8, 9, 10, 11, 12, 13, 14, 15], true, [], [], false⟩] (by decide) ?_
      simp (maxSteps := 2000000) -implicitDefEqProofs only [zz, zE, evop, ev, ofVal, tget, tput, ok, V.isUndef, intBin, guardOf, Ch.on, calleeOf, withArgs, hget, hput, V.cells, D.cells, V.isAgg, loadD, Blk.width, ↓reduceIte, reduceCtorEq, Nat.reduceLT, Nat.reduceEqDiff, Nat.reduceAdd, Nat.reduceSub, Nat.reduceLeDiff, dW, hf', hw1, List.getElem?_map, hg1, hg0, Option.map_some, Int.natCast_nonneg]
      refine ⟨by omega, by omega, ?_⟩
      refine dcall_flat (ds := [dW x, dW y]) (by simp only [xports, xport, dW]) (hc x y) rfl ?_
      simp (maxSteps := 2000000) -implicitDefEqProofs only [zz, evop, ev, ofVal, tget, tput, ok, V.isUndef, intBin, Ch.on, told, ↓reduceIte, Nat.reduceLT, Nat.reduceEqDiff, Nat.reduceAdd, nilTest]
      split
      · rename_i hlt'
        refine wdraw_plan [⟨[], false, [38, 39, 40, 41, 42, 43, 44, 45, 46, 47, 48, 49, 50], [], false⟩, ⟨[], false, [37, 39, 40, 41, 42, 43, 44, 45, 46, 47, 48, 49, 50], [0], false⟩, ⟨[], false, [37, 38, 39, 40, 41, 42, 43, 44, 45, 46, 47, 48, 49, 50, 51, 52], [0, 1], true⟩, ⟨[], false, [37, 38, 39, 40, 41, 42, 43, 44, 45, 46, 47, 48, 49, 50, 51, 52], [0, 1, 2], true⟩, ⟨[3], false, [37, 38, 39, 41, 42, 43, 44, 45, 46, 47, 48, 49, 50, 51, 52], [0, 1, 2], true⟩, ⟨[], false, [37, 38, 39, 40, 41, 43, 44, 47, 48, 49, 50], [0, 1, 2, 3, 4], false⟩, ⟨[], false, [37, 38, 39, 40, 41, 42, 47, 48, 49, 50], [0, 1, 2, 3, 4, 5], false⟩, ⟨[6], false, [37, 38, 39, 40, 41, 42, 47, 48, 49, 50], [0, 1, 2, 3, 4, 5], false⟩, ⟨[5, 6, 7], false, [37, 38, 39, 40, 41, 47, 48, 49, 50], [0, 1, 2, 3, 4], false⟩, ⟨[5, 6, 7, 8], false, [37, 38, 39, 40, 41, 47, 48, 49, 50], [0, 1, 2, 3, 4], false⟩, ⟨[], false, [37, 38, 39, 40, 41, 42, 43, 44, 45, 46, 48], [0, 1, 2, 3, 4, 5, 6, 7, 8, 9], false⟩, ⟨[], false, [37, 38, 39, 40, 41, 42, 43, 44, 45, 46, 47], [0, 1, 2, 3, 4, 5, 6, 7, 8, 9, 10], false⟩, ⟨[10, 11], false, [37, 38, 39, 40, 41, 42, 43, 44, 45, 46], [0, 1, 2, 3, 4, 5, 6, 7, 8, 9], false⟩, ⟨[10, 11, 12], false, [37, 38, 39, 40, 41, 42, 43, 44, 45, 46], [0, 1, 2, 3, 4, 5, 6, 7, 8, 9], false⟩, ⟨[0, 1, 5, 6, 7, 8, 9, 10, 11, 12, 13], false, [39, 40, 41], [2, 3, 4], false⟩, ⟨[0, 1, 5, 6, 7, 8, 9, 10, 11, 12, 13, 14], true, [39, 40, 41], [], false⟩, ⟨[0, 1, 2, 3, 4, 5, 6, 7, 8, 9, 10, 11, 12, 13, 14, 15], true, [], [], false⟩, ⟨[0, 1, 2, 3, 4, 5, 6, 7, 8, 9, 10, 11, 12, 13, 14, 15, 16], true, [], [], false⟩] (by decide) ?_
        simp (maxSteps := 2000000) -implicitDefEqProofs only [zz, zE, evop, ev, ofVal, tget, tput, ok, V.isUndef, intBin, Ch.on, hget, hput, V.cells, D.cells, V.isAgg, V.one, V.clo, clos, loadD, Blk.width, splice, D.over, ↓reduceIte, reduceCtorEq, Nat.reduceLT, Nat.reduceEqDiff, Nat.reduceAdd, Nat.reduceLeDiff, nilTest, dW, hw1, List.getElem?_map, hg1, hg0, hg2, Option.map_some, Int.natCast_nonneg, set_dW, hsw]
        refine ⟨by omega, by omega, by omega, by omega, k, ⟨by omega, fun i hi z hz => ?_⟩, by omega, Weak.trimsM 1 (by simp) rfl (by simp [tget, hw1, V.lower, lowerL]) (by simp [Blk.lower])⟩
        by_cases e : i = k
        · subst e; rw [hgy] at hz; cases hz; simpa [lt] using hlt'
        · exact hgt i (by omega) z hz
      · rename_i hlt'
        have e3 := e2 (k + 1) (insK_eq hk hgt (.inr ⟨y, by simpa using hgy, by simpa [lt] using hlt'⟩))
        rw [e3]
        exact Weak.trimsM 1 (by simp) rfl (by simp [tget, V.lower, lowerL]; rw [wrap_in (by omega)]; omega) (by simp [Blk.lower])
  · have h' : ¬ (((a + 1 + (b - (a + 1)) : Nat) : Int) < (b : Int)) := by omega
    have e1 : a + 1 + (b - (a + 1)) = b := by omega
    have h'' : ¬ ((b : Int) < (b : Int)) := by omega
    simp (maxSteps := 2000000) -implicitDefEqProofs only [zz, evop, ev, tget, tput, ok, V.isUndef, intBin, Ch.on, told, resOf, resVs, ↓reduceIte, reduceCtorEq, Nat.reduceLT, Nat.reduceEqDiff, nilTest, h'', e1]
    refine Weak.sub (T := [(0, V.tuple [])]) (H := [.dat false 2 ((sortPart lt ws a b).map dW)]) ?_
    simp [tget]

end Go.Proofs.YtjhfpabldidlgaaGreat.AM

/- CompactFunc over writes; the stable sort of few; writes.Last of few. -/
set_option linter.all false
set_option maxRecDepth 100000
set_option maxHeartbeats 4000000
namespace Go.Proofs.YtjhfpabldidlgaaGreat.AM
open Go Go.RowKit

def cmpctGo {α : Type} (q : α → α → Bool) : α → List α → List α
  | _, [] => []
  | p, y :: r => cond (q y p) (cmpctGo q y r) (y :: cmpctGo q y r)
def cmpct {α : Type} (q : α → α → Bool) : List α → List α
  | [] => []
  | x :: r => x :: cmpctGo q x r

theorem cmpctGo_snoc {α : Type} {q : α → α → Bool} : ∀ (l : List α) (p : α) (y : α), cmpctGo q p (l ++ [y]) = cond (q y ((l.getLast?).getD p)) (cmpctGo q p l) (cmpctGo q p l ++ [y])
  | [], p, y => by simp [cmpctGo]
  | z :: l, p, y => by
    have ih := cmpctGo_snoc (q := q) l z y
    have hz : ((z :: l).getLast?).getD p = (l.getLast?).getD z := by cases l <;> simp [List.getLast?_cons]
    rw [hz]
    simp only [List.cons_append, cmpctGo]
    rw [ih]
    cases q z p <;> cases q y ((l.getLast?).getD z) <;> simp

theorem cmpct_snoc {α : Type} {q : α → α → Bool} {l : List α} {y z : α} (h : l.getLast? = some z) : cmpct q (l ++ [y]) = cond (q y z) (cmpct q l) (cmpct q l ++ [y]) := by
  cases l with
  | nil => simp at h
  | cons x r =>
    have hz : (r.getLast?).getD x = z := by cases r <;> simp_all [List.getLast?_cons]
    simp only [List.cons_append, cmpct]
    rw [cmpctGo_snoc, hz]
    cases q y z <;> simp

theorem cmpct_take {α : Type} {q : α → α → Bool} {s : List α} {j : Nat} {y z : α} (hy : s[j + 1]? = some y) (hz : s[j]? = some z) : cmpct q (s.take (j + 2)) = cond (q y z) (cmpct q (s.take (j + 1))) (cmpct q (s.take (j + 1)) ++ [y]) := by
  have h1 : s.take (j + 2) = s.take (j + 1) ++ [y] := by
    rw [List.take_add_one (i := j + 1), hy]; rfl
  have hj := (List.getElem?_eq_some_iff.1 hy).1
  rw [h1]
  refine cmpct_snoc ?_
  rw [List.getLast?_eq_getElem?, List.getElem?_take]
  have : (s.take (j + 1)).length - 1 = j := by simp; omega
  rw [this, if_pos (by omega), hz]

theorem cmpct_len {α : Type} {q : α → α → Bool} : ∀ (l : List α), (cmpct q l).length ≤ l.length := by
  have : ∀ (l : List α) (p : α), (cmpctGo q p l).length ≤ l.length := by
    intro l
    induction l with
    | nil => simp [cmpctGo]
    | cons y r ih => intro p; simp only [cmpctGo]; have := ih y; cases q y p <;> simp <;> omega
  intro l
  cases l with
  | nil => simp [cmpct]
  | cons x r => have := this r x; simp [cmpct]; omega

theorem r_Compact_W (ws : List (Int × Int)) (hl : ws.length ≤ 1000000) (f : Nat) (q : Int × Int → Int × Int → Bool) (hc : ∀ x y, CSpec Tryz.prog f [dW x, dW y] (.bool (q x y))) :
    RSpec Tryz.prog 133 [.own 0 0 ws.length, .func (f, 0) []] [.dat false 2 (ws.map dW)] (.own 0 0 (cmpct q ws).length)
      [.dat false 2 ((cmpct q ws ++ List.replicate (ws.length - (cmpct q ws).length) (0, 0)).map dW)] := by
  refine RSpec.of_awp envOf_ok hmix Tryz.func133 rfl (fun args w => Tryz.call133 args w) (by simp [Tryz.f133]) ?_
  simp only [Tryz.f133]
  simp (maxSteps := 2000000) -implicitDefEqProofs only [zz, zE, evop, ev, ofVal, tget, tput, ok, V.isUndef, intBin, Ch.on, told, hget, sliceOf, lenOf, resOf, resV, resVs, ↓reduceIte, reduceCtorEq, Nat.reduceLT, nilTest, initV]
  rcases Nat.lt_or_ge ws.length 2 with h2 | h2
  · have h2' : ((ws.length : Int) < 2) := by omega
    have e : cmpct q ws = ws := by
      match ws, h2 with
      | [], _ => rfl
      | [x], _ => rfl
    simp (maxSteps := 2000000) -implicitDefEqProofs only [zz, ↓reduceIte, h2', e]
    simp only [Nat.sub_self, List.replicate_zero, List.append_nil]
    exact Weak.sub (by simp [tget])
  have h2' : ¬ ((ws.length : Int) < 2) := by omega
  simp (maxSteps := 2000000) -implicitDefEqProofs only [zz, ↓reduceIte, h2']
  refine wloop_count (ws.length - 1) (fun i => [(5, .d (.int .i64 ((i + 1 : Nat) : Int))), (0, .own 0 0 ws.length), (1, .func (f, 0) [])]) (fun i => [.dat false 2 (ws.map dW)]) (fun i => cmpct q (ws.take (i + 1)) = ws.take (i + 1)) (by cases ws with | nil => rfl | cons x r => rfl) (Weak.sub (by simp [tget])) (fun i hi hI => ?_) (fun hI => ?_)
  · have h' : (((i + 1 : Nat) : Int) < (ws.length : Int)) := by omega
    have hx : ws[i]? = some ws[i] := List.getElem?_eq_getElem (by omega)
    have hy : ws[i + 1]? = some ws[i + 1] := List.getElem?_eq_getElem (by omega)
    have hw1 : IntKind.i64.wrap (((i + 1 : Nat) : Int) - 1) = (i : Int) := by rw [wrap_in (by omega)]; omega
    have hwi : IntKind.i64.wrap (((i + 1 : Nat) : Int) + 1) = ((i + 1 + 1 : Nat) : Int) := by rw [wrap_in (by omega)]; omega
    simp (maxSteps := 2000000) -implicitDefEqProofs only [zz, zE, evop, ev, tget, tput, ok, V.isUndef, intBin, Ch.on, told, hget, sliceOf, lenOf, ↓reduceIte, reduceCtorEq, Nat.reduceLT, Nat.reduceEqDiff, nilTest, h']
    refine wdraw_plan [⟨[], false, [19, 20, 21, 22, 23, 24, 25, 26, 27], [], false⟩, ⟨[], false, [18, 20, 23, 24, 25, 26, 27], [0], false⟩, ⟨[], false, [18, 19, 23, 24, 25, 26, 27], [0, 1], false⟩, ⟨[1, 2], false, [18, 23, 24, 25, 26, 27], [0], false⟩, ⟨[1, 2, 3], false, [18, 23, 24, 25, 26, 27], [0], false⟩, ⟨[], false, [18, 19, 20, 21, 22, 24, 25], [0, 1, 2, 3, 4], false⟩, ⟨[], false, [18, 19, 20, 21, 22, 23], [0, 1, 2, 3, 4, 5], false⟩, ⟨[6], false, [18, 19, 20, 21, 22, 23], [0, 1, 2, 3, 4, 5], false⟩, ⟨[5, 6, 7], false, [18, 19, 20, 21, 22], [0, 1, 2, 3, 4], false⟩, ⟨[5, 6, 7, 8], false, [18, 19, 20, 21, 22], [0, 1, 2, 3, 4], false⟩, ⟨[0, 1, 2, 3, 4, 5, 6, 7, 8, 9], true, [], [], false⟩] (by decide) ?_
    simp (maxSteps := 2000000) -implicitDefEqProofs only [zz, zE, evop, ev, ofVal, tget, tput, ok, V.isUndef, intBin, calleeOf, withArgs, hget, hput, V.cells, D.cells, V.isAgg, loadD, Blk.width, ↓reduceIte, reduceCtorEq, Nat.reduceLT, Nat.reduceEqDiff, Nat.reduceAdd, Nat.reduceLeDiff, dW, h', hw1, List.getElem?_map, hx, hy, Option.map_some, Int.natCast_nonneg]
    refine ⟨by omega, ?_⟩
    refine acall_flat (ds := [dW ws[i + 1], dW ws[i]]) (by simp only [xports, xport, dW]) (hc _ _) rfl ?_
    simp (maxSteps := 2000000) -implicitDefEqProofs only [zz, zE, evop, ev, ofVal, tget, tput, ok, V.isUndef, intBin, Ch.on, told, hget, sliceOf, bound, lenOf, ↓reduceIte, reduceCtorEq, Nat.reduceLT, Nat.reduceEqDiff, Nat.reduceAdd, nilTest]
    split
    · rename_i hq
      have hA0 : cmpct q (ws.take (i + 1 + 0 + 1)) = ws.take (i + 1) := by
        rw [Nat.add_zero, cmpct_take hy hx, hq, cond_true, hI]
      refine ⟨⟨by omega, by omega, by omega⟩, ?_⟩
      refine wloop_count (ws.length - (i + 1) - 1) (fun j => [(7, .d (.int .i64 ((j + 1 : Nat) : Int))), (6, .own 0 (i + 1) (ws.length - (i + 1))), (5, .d (.int .i64 (((cmpct q (ws.take (i + 1 + j + 1))).length : Nat) : Int))), (0, .own 0 0 ws.length), (1, .func (f, 0) [])])
        (fun j => [.dat false 2 ((cmpct q (ws.take (i + 1 + j + 1)) ++ ws.drop (cmpct q (ws.take (i + 1 + j + 1))).length).map dW)])
        (fun j => (cmpct q (ws.take (i + 1 + j + 1))).length ≤ i + 1 + j) (by rw [hA0]; simp; omega) ?_ (fun j hj hJ => ?_) (fun hJ => ?_)
      · have e1 : (ws.take (i + 1)).length = i + 1 := by simp; omega
        rw [hA0, e1, List.take_append_drop]
        exact Weak.trimsM 1 (by simp) rfl (by simp [tget, V.lower, lowerL]; try omega) (by simp [Blk.lower])
      · obtain ⟨A, hA⟩ : ∃ A, A = cmpct q (ws.take (i + 1 + j + 1)) := ⟨_, rfl⟩
        rw [← hA] at hJ
        rw [← hA]
        have h9 : (((j + 1 : Nat) : Int) < ((ws.length - (i + 1) : Nat) : Int)) := by omega
        have hp1 : i + 1 + (j + 1) < ws.length := by omega
        have hu : ws[i + 1 + (j + 1)]? = some ws[i + 1 + (j + 1)] := List.getElem?_eq_getElem hp1
        have hv : ws[i + 1 + j]? = some ws[i + 1 + j] := List.getElem?_eq_getElem (by omega)
        obtain ⟨u, hu'⟩ : ∃ u, u = ws[i + 1 + (j + 1)] := ⟨_, rfl⟩
        obtain ⟨v, hv'⟩ : ∃ v, v = ws[i + 1 + j] := ⟨_, rfl⟩
        rw [← hu'] at hu
        rw [← hv'] at hv
        have g1 : (A ++ ws.drop A.length)[i + 1 + (j + 1)]? = some u := by
          rw [List.getElem?_append_right (by omega), List.getElem?_drop, ← hu]; congr 1; omega
        have g0 : (A ++ ws.drop A.length)[i + 1 + j]? = some v := by
          rw [List.getElem?_append_right (by omega), List.getElem?_drop, ← hv]; congr 1; omega
        have hw2 : IntKind.i64.wrap (((j + 1 : Nat) : Int) - 1) = (j : Int) := by rw [wrap_in (by omega)]; omega
        have hw3 : IntKind.i64.wrap (((j + 1 : Nat) : Int) + 1) = ((j + 1 + 1 : Nat) : Int) := by rw [wrap_in (by omega)]; omega
        have hw4 : IntKind.i64.wrap ((A.length : Int) + 1) = ((A.length + 1 : Nat) : Int) := by rw [wrap_in (by omega)]; omega
        have hst : cmpct q (ws.take (i + 1 + (j + 1) + 1)) = cond (q u v) A (A ++ [u]) := by
          have := cmpct_take (q := q) (s := ws) (j := i + 1 + j) hu hv
          rw [← hA] at this
          exact this
        simp (maxSteps := 2000000) -implicitDefEqProofs only [zz, zE, evop, ev, tget, tput, ok, V.isUndef, intBin, Ch.on, told, hget, sliceOf, lenOf, ↓reduceIte, Nat.reduceLT, Nat.reduceEqDiff, nilTest, h9]
        refine wdraw_plan [⟨[], false, [39, 40, 41, 42, 43, 44, 45, 46, 47], [], false⟩, ⟨[], false, [38, 40, 43, 44, 45, 46, 47], [0], false⟩, ⟨[], false, [38, 39, 43, 44, 45, 46, 47], [0, 1], false⟩, ⟨[1, 2], false, [38, 43, 44, 45, 46, 47], [0], false⟩, ⟨[1, 2, 3], false, [38, 43, 44, 45, 46, 47], [0], false⟩, ⟨[], false, [38, 39, 40, 41, 42, 44, 45], [0, 1, 2, 3, 4], false⟩, ⟨[], false, [38, 39, 40, 41, 42, 43], [0, 1, 2, 3, 4, 5], false⟩, ⟨[6], false, [38, 39, 40, 41, 42, 43], [0, 1, 2, 3, 4, 5], false⟩, ⟨[5, 6, 7], false, [38, 39, 40, 41, 42], [0, 1, 2, 3, 4], false⟩, ⟨[5, 6, 7, 8], false, [38, 39, 40, 41, 42], [0, 1, 2, 3, 4], false⟩, ⟨[0, 1, 2, 3, 4, 5, 6, 7, 8, 9], true, [], [], false⟩, ⟨[0, 1, 2, 3, 4, 5, 6, 7, 8, 9, 10], true, [], [], false⟩] (by decide) ?_
        simp (maxSteps := 2000000) -implicitDefEqProofs only [zz, zE, evop, ev, ofVal, tget, tput, ok, V.isUndef, intBin, calleeOf, withArgs, hget, hput, V.cells, D.cells, V.isAgg, loadD, Blk.width, ↓reduceIte, reduceCtorEq, Nat.reduceLT, Nat.reduceEqDiff, Nat.reduceAdd, Nat.reduceLeDiff, dW, h9, hw2, List.getElem?_map, g1, g0, Option.map_some, Int.natCast_nonneg]
        have hA1 : ((A.length : Int) < (ws.length : Int)) := by omega
        have hset : (A ++ ws.drop A.length).set A.length u = (A ++ [u]) ++ ws.drop (A ++ [u]).length := by
          rw [List.set_append_right _ _ (Nat.le_refl _), Nat.sub_self, List.drop_eq_getElem_cons (by omega), List.set_cons_zero, List.append_assoc]; simp
        refine ⟨by omega, ?_⟩
        refine acall_flat (ds := [dW u, dW v]) (by simp only [xports, xport, dW]) (hc _ _) rfl ?_
        simp (maxSteps := 2000000) -implicitDefEqProofs only [zz, zE, evop, ev, ofVal, tget, tput, ok, V.isUndef, intBin, Ch.on, told, hget, D.cells, loadD, ↓reduceIte, reduceCtorEq, Nat.reduceLT, Nat.reduceEqDiff, Nat.reduceAdd, nilTest]
        rw [hst]
        cases hq2 : q u v
        · simp only [cond_false]
          have gA : (A ++ ws.drop A.length)[A.length]? = some (ws[A.length]'(by omega)) := by
            rw [List.getElem?_append_right (Nat.le_refl _), List.getElem?_drop, Nat.sub_self, Nat.add_zero, List.getElem?_eq_getElem (by omega)]
          simp (maxSteps := 2000000) -implicitDefEqProofs only [zz, zE, evop, ev, ofVal, tget, tput, ok, V.isUndef, intBin, Ch.on, hget, hput, V.cells, D.cells, V.one, V.clo, clos, splice, D.over, ↓reduceIte, Nat.reduceLT, Nat.reduceEqDiff, Nat.reduceAdd, Nat.reduceLeDiff, nilTest, dW, hw3, hw4, hA1, h9, List.getElem?_map, g1, gA, Option.map_some, Int.natCast_nonneg, set_dW, hset]
          have e5 : (A ++ [u]).length = A.length + 1 := by simp
          rw [e5]
          refine ⟨by omega, Weak.trimsM 1 (by simp) rfl (by simp [tget, V.lower, lowerL]) (by simp [Blk.lower])⟩
        · simp only [cond_true]
          simp (maxSteps := 2000000) -implicitDefEqProofs only [zz, ↓reduceIte, hw3]
          refine ⟨by omega, Weak.trimsM 1 (by simp) rfl (by simp [tget, V.lower, lowerL]) (by simp [Blk.lower])⟩
      · have e6 : i + 1 + (ws.length - (i + 1) - 1) + 1 = ws.length := by omega
        rw [e6, List.take_of_length_le (Nat.le_refl _)] at hJ
        rw [e6, List.take_of_length_le (Nat.le_refl _)]
        have hcl := cmpct_len (q := q) ws
        have h9 : ¬ (((ws.length - (i + 1) - 1 + 1 : Nat) : Int) < ((ws.length - (i + 1) : Nat) : Int)) := by omega
        have hA1 : (((cmpct q ws).length : Int) ≤ (ws.length : Int)) := by omega
        have hsub : ((ws.length : Int) - ((cmpct q ws).length : Int)).toNat = ws.length - (cmpct q ws).length := by omega
        simp (maxSteps := 2000000) -implicitDefEqProofs only [zz, zE, evop, ev, tget, tput, ok, V.isUndef, intBin, Ch.on, told, hget, hput, D.cells, V.one, V.clo, clos, sliceOf, bound, lenOf, resOf, resV, resVs, ↓reduceIte, reduceCtorEq, Nat.reduceLT, Nat.reduceEqDiff, Nat.reduceAdd, nilTest, h9, hA1, Int.natCast_nonneg, hsub, zeroD, okEl]
        have e7 : List.take (cmpct q ws).length (List.map dW (cmpct q ws ++ List.drop (cmpct q ws).length ws)) ++ List.replicate (ws.length - (cmpct q ws).length) (D.agg [D.int IntKind.i64 0, D.int IntKind.i64 0]) ++ List.drop ((cmpct q ws).length + (ws.length - (cmpct q ws).length)) (List.map dW (cmpct q ws ++ List.drop (cmpct q ws).length ws))
            = List.map dW (cmpct q ws ++ List.replicate (ws.length - (cmpct q ws).length) (0, 0)) := by
          have e9 : List.drop ((cmpct q ws).length + (ws.length - (cmpct q ws).length)) (List.map dW (cmpct q ws ++ List.drop (cmpct q ws).length ws)) = [] := List.drop_of_length_le (by simp)
          have e10 : List.take (cmpct q ws).length (List.map dW (cmpct q ws ++ List.drop (cmpct q ws).length ws)) = List.map dW (cmpct q ws) := by
            rw [List.map_append, List.take_left' (by simp)]
          rw [e9, e10, List.append_nil, List.map_append, List.map_replicate]; rfl
        rw [e7]
        have e8 : (((cmpct q ws).length : Int) - 0).toNat = (cmpct q ws).length := by omega
        rw [e8]
        exact ⟨Int.le_refl _, Int.le_refl _, Weak.sub (by simp [tget])⟩
    · rename_i hq
      simp (maxSteps := 2000000) -implicitDefEqProofs only [hwi]
      refine ⟨?_, Weak.trimsM 1 (by simp) rfl (by simp [tget, V.lower, lowerL]) (by simp [Blk.lower])⟩
      rw [cmpct_take hy hx]
      simp only [Bool.not_eq_true] at hq
      rw [hq, cond_false, hI]
      rw [List.take_add_one (i := i + 1), hy]; rfl
  · have h' : ¬ (((ws.length - 1 + 1 : Nat) : Int) < (ws.length : Int)) := by omega
    simp (maxSteps := 2000000) -implicitDefEqProofs only [zz, zE, evop, ev, tget, tput, ok, V.isUndef, intBin, Ch.on, told, hget, sliceOf, lenOf, resOf, resV, resVs, ↓reduceIte, reduceCtorEq, Nat.reduceLT, Nat.reduceEqDiff, nilTest, h']
    have e : cmpct q ws = ws := by
      have : ws.take (ws.length - 1 + 1) = ws := List.take_of_length_le (by omega)
      rwa [this] at hI
    rw [e]
    simp only [Nat.sub_self, List.replicate_zero, List.append_nil]
    exact Weak.sub (by simp [tget])


theorem c_Last1 (a b : Int × Int) : CSpec Tryz.prog 131 [dW a, dW b] (.int .i64 (cmpI a.1 b.1)) := by
  refine CSpec.of_awp envOf_ok hmix Tryz.func131 rfl (fun args w => Tryz.call131 args w) (by simp [Tryz.f131]) ?_
  simp only [Tryz.f131]
  simp (maxSteps := 2000000) -implicitDefEqProofs only [zz, zE, evop, ev, ofVal, tget, tput, ok, V.isUndef, initT, Ch.on, calleeOf, withArgs, hget, hput, V.cells, structAt, Blk.width, ↓reduceIte, reduceCtorEq, Nat.reduceLT, Nat.reduceEqDiff, Nat.reduceAdd, dW]
  refine acall_flat (by first | rfl | (simp only [xports, xport, hget]; rfl)) (c_Compare _ _) rfl ?_
  try simp (maxSteps := 2000000) -implicitDefEqProofs only [zz, evop, ev, tget, tput, ok, V.isUndef, Ch.on, xport, resOf, resV, resVs, ↓reduceIte, Nat.reduceLT]

theorem c_Last2 (a b : Int × Int) : CSpec Tryz.prog 134 [dW a, dW b] (.bool (a.1 == b.1)) := by
  refine CSpec.of_awp envOf_ok hmix Tryz.func134 rfl (fun args w => Tryz.call134 args w) (by simp [Tryz.f134]) ?_
  simp only [Tryz.f134]
  simp (maxSteps := 2000000) -implicitDefEqProofs only [zz, zE, evop, ev, ofVal, tget, tput, ok, V.isUndef, intBin, initT, Ch.on, xport, hget, hput, V.cells, structAt, Blk.width, resOf, resV, resVs, ↓reduceIte, reduceCtorEq, Nat.reduceLT, Nat.reduceEqDiff, Nat.reduceAdd, nilTest, dW]

theorem r_stable_few (ws : List (Int × Int)) (hl : ws.length < 20) (f : Nat) (c : Int × Int → Int × Int → Int) (hc : ∀ x y, CSpec Tryz.prog f [dW x, dW y] (.int .i64 (c x y))) :
    RSpec Tryz.prog 185 [.own 0 0 ws.length, .d (.int .i64 ws.length), .func (f, 0) []] [.dat false 2 (ws.map dW)] (.tuple []) [.dat false 2 ((isort (fun x y => decide (c x y < 0)) ws).map dW)] := by
  refine RSpec.of_awp envOf_ok hmix Tryz.func185 rfl (fun args w => Tryz.call185 args w) (by simp [Tryz.f185]) ?_
  simp only [Tryz.f185]
  simp (maxSteps := 2000000) -implicitDefEqProofs only [zz, evop, ev, ofVal, tget, tput, ok, V.isUndef, Ch.on, ↓reduceIte, Nat.reduceLT, Nat.reduceEqDiff, Nat.reduceAdd, initV]
  have hS : sortPart (fun x y => decide (c x y < 0)) ws 0 ws.length = isort (fun x y => decide (c x y < 0)) ws := by simp [sortPart]
  have hR := r_insertion_W ws 0 ws.length (Nat.zero_le _) (Nat.le_refl _) (by omega) f c hc
  rw [hS] at hR
  refine wloop_count 0 (fun i => [(0, .own 0 0 ws.length), (1, .d (.int .i64 ws.length)), (2, .func (f, 0) []), (6, .d (.int .i64 20)), (7, .d (.int .i64 0)), (8, .d (.int .i64 20))]) (fun i => [.dat false 2 (ws.map dW)]) (fun i => True) trivial (Weak.sub (by simp [tget])) (fun i hi _ => by omega) (fun _ => ?_)
  have h' : ¬ ((20 : Int) ≤ (ws.length : Int)) := by omega
  simp (maxSteps := 2000000) -implicitDefEqProofs only [zz, evop, ev, tget, tput, ok, V.isUndef, intBin, Ch.on, calleeOf, withArgs, told, ↓reduceIte, reduceCtorEq, Nat.reduceLT, Nat.reduceEqDiff, nilTest, h']
  refine acall_ref [0] (hR) (by first | rfl | simp [renL, V.ren, frρ, renL_ds]) (by simp) rfl (by simp) (by simp) (by intro j hj; match j, hj with | 0, _ => exact ⟨by simp [hget], rfl⟩) ?_
  try simp (maxSteps := 2000000) -implicitDefEqProofs only [zz, tput, hput, ↓reduceIte, Nat.reduceLT, Blk.ren, V.ren, renL, frameH, putL]
  have hl2 : (isort (fun x y => decide (c x y < 0)) ws).length = ws.length := isort_length _ _
  refine wloop_count 0 (fun i => [(0, .own 0 0 ws.length), (1, .d (.int .i64 ws.length)), (2, .func (f, 0) []), (6, .d (.int .i64 20)), (7, .d (.int .i64 0)), (8, .d (.int .i64 20))]) (fun i => [.dat false 2 ((isort (fun x y => decide (c x y < 0)) ws).map dW)]) (fun i => True) trivial (Weak.sub (by simp [tget])) (fun i hi _ => by omega) (fun _ => ?_)
  have h' : ¬ ((20 : Int) < (ws.length : Int)) := by omega
  simp (maxSteps := 2000000) -implicitDefEqProofs only [zz, evop, ev, tget, tput, ok, V.isUndef, intBin, Ch.on, told, resOf, resVs, ↓reduceIte, reduceCtorEq, Nat.reduceLT, Nat.reduceEqDiff, nilTest, h']
  exact Weak.sub (by simp [tget])

theorem r_SortStable_few (ws : List (Int × Int)) (hl : ws.length < 20) (f : Nat) (c : Int × Int → Int × Int → Int) (hc : ∀ x y, CSpec Tryz.prog f [dW x, dW y] (.int .i64 (c x y))) :
    RSpec Tryz.prog 130 [.own 0 0 ws.length, .func (f, 0) []] [.dat false 2 (ws.map dW)] (.tuple []) [.dat false 2 ((isort (fun x y => decide (c x y < 0)) ws).map dW)] := by
  refine RSpec.of_awp envOf_ok hmix Tryz.func130 rfl (fun args w => Tryz.call130 args w) (by simp [Tryz.f130]) ?_
  simp only [Tryz.f130]
  simp (maxSteps := 2000000) -implicitDefEqProofs only [zz, zE, evop, ev, tget, tput, ok, V.isUndef, Ch.on, calleeOf, withArgs, hget, sliceOf, lenOf, ↓reduceIte, reduceCtorEq, Nat.reduceLT, Nat.reduceEqDiff, initV]
  refine acall_ref [0] (r_stable_few ws hl f c hc) (by first | rfl | simp [renL, V.ren, frρ, renL_ds]) (by simp) rfl (by simp) (by simp) (by intro j hj; match j, hj with | 0, _ => exact ⟨by simp [hget], rfl⟩) ?_
  try simp (maxSteps := 2000000) -implicitDefEqProofs only [zz, tput, hput, resOf, resVs, ↓reduceIte, Nat.reduceLT, Blk.ren, V.ren, renL, frameH, putL]
  exact Weak.sub (by simp [tget])

/-- What a log writes: of each cell the last. -/
def lastW (ws : List (Int × Int)) : List (Int × Int) := cmpct (fun a b => a.1 == b.1) (isort (fun x y => decide (cmpI x.1 y.1 < 0)) ws.reverse)

theorem lastW_len (ws : List (Int × Int)) : (lastW ws).length ≤ ws.length := by
  have := cmpct_len (q := fun a b : Int × Int => a.1 == b.1) (isort (fun x y => decide (cmpI x.1 y.1 < 0)) ws.reverse)
  rw [isort_length] at this
  simpa [lastW] using this

end Go.Proofs.YtjhfpabldidlgaaGreat.AM

/- Which cells a term names; terms of registers alone. -/
set_option linter.all false
set_option maxRecDepth 100000
set_option maxHeartbeats 4000000
namespace Go.Proofs.YtjhfpabldidlgaaGreat.AM
open Go Go.RowKit

/-- The list in order. -/
def srtI (zs : List Int) : List Int := zs.mergeSort fun x y => decide (x ≤ y)
theorem srtI_len (zs : List Int) : (srtI zs).length = zs.length := List.length_mergeSort ..
def cmpZ (zs : List Int) : List Int := cmpct (fun a b => a == b) zs

theorem r_Sort_int (zs : List Int) (hl : zs.length ≤ 1000000) : RSpec Tryz.prog 97 [.own 0 0 zs.length] [.dat false 1 (zs.map dI)] (.tuple []) [.dat false 1 ((srtI zs).map dI)] :=
  RSpec.of_sort (fun args w => Tryz.call97 args w) (fun p cap w => Tryz.slices_Sort_int_none p cap w) (fun blk off cap zs w => Tryz.slices_Sort_int blk off cap zs w) zs hl

theorem compact_upto (zs : List Int) : ∀ m, m ≤ zs.length → Lib.compactUpTo zs.toArray m = cmpct (fun a b => a == b) (zs.take m)
  | 0, _ => by simp [Lib.compactUpTo, cmpct]
  | 1, h => by
    rw [Lib.compactUpTo_succ]
    obtain ⟨x, r, rfl⟩ : ∃ x r, zs = x :: r := by cases zs with
      | nil => simp at h
      | cons x r => exact ⟨x, r, rfl⟩
    simp [Lib.compactUpTo, Lib.keeps, cmpct, cmpctGo]
  | m + 2, h => by
    have hy : zs[m + 1]? = some zs[m + 1] := List.getElem?_eq_getElem (by omega)
    have hz : zs[m]? = some zs[m] := List.getElem?_eq_getElem (by omega)
    rw [Lib.compactUpTo_succ, compact_upto zs (m + 1) (by omega), cmpct_take hy hz]
    have e : Lib.keeps zs.toArray (m + 1) = !(zs[m + 1] == zs[m]) := by
      unfold Lib.keeps
      have h1 : zs.toArray[m + 1]! = zs[m + 1] := by simp [getElem!_def, hy]
      have h2 : zs.toArray[m]! = zs[m] := by simp [getElem!_def, hz]
      rw [Nat.add_sub_cancel, h1, h2]
      by_cases hh : zs[m + 1] = zs[m] <;> simp [hh]
    have h1 : zs.toArray[m + 1]! = zs[m + 1] := by simp [getElem!_def, hy]
    rw [e, h1]
    cases zs[m + 1] == zs[m] <;> simp
theorem compact_eq (zs : List Int) : Lib.compact zs = cmpct (fun a b => a == b) zs := by
  unfold Lib.compact; rw [compact_upto zs _ (Nat.le_refl _), List.take_length]

theorem r_Compact_int (zs : List Int) (hl : zs.length ≤ 1000000) : RSpec Tryz.prog 98 [.own 0 0 zs.length] [.dat false 1 (zs.map dI)] (.own 0 0 (cmpZ zs).length)
    [.dat false 1 ((cmpZ zs ++ List.replicate (zs.length - (cmpZ zs).length) 0).map dI)] := by
  have hc : (cmpZ zs).length ≤ zs.length := cmpct_len zs
  have e : cmpZ zs = Lib.compact zs := (compact_eq zs).symm
  rw [e] at hc ⊢
  exact RSpec.of_compact (fun args w => Tryz.call98 args w) (fun p cap w => Tryz.slices_Compact_int_empty p cap w) zs _ _ hl (by simp; omega) hc
    (fun blk off cap w hH hcap => Tryz.slices_Compact_int blk off cap zs w hH (by omega) hcap)


def cellsT (t : List (Int × Int)) : List Int := (t.filter fun o => o.1 == 2).map fun o => o.2
theorem cellsT_snoc (t : List (Int × Int)) (o : Int × Int) : cellsT (t ++ [o]) = if o.1 == 2 then cellsT t ++ [o.2] else cellsT t := by
  unfold cellsT
  rw [List.filter_append, List.map_append]
  by_cases h : o.1 == 2 <;> simp [h]
theorem cellsT_len (t : List (Int × Int)) : (cellsT t).length ≤ t.length := by
  unfold cellsT; rw [List.length_map]; exact List.length_filter_le ..

theorem o_Cells (t : List (Int × Int)) (hl : t.length ≤ 1000000) (hc : termC t = 0) : FSpec Tryz.prog 210 [.vec (t.map dW)] (.own 0 0 (cmpZ (srtI (cellsT t))).length)
    [.dat false 1 ((cmpZ (srtI (cellsT t)) ++ List.replicate ((cellsT t).length - (cmpZ (srtI (cellsT t))).length) 0).map dI)] := by
  have hcl := cellsT_len t
  refine FSpec.of_awp envOf_ok hmix Tryz.func210 rfl (fun args w => Tryz.call210 args w) (by simp [Tryz.f210]) ?_
  simp only [Tryz.f210]
  simp (maxSteps := 2000000) -implicitDefEqProofs only [zz, evop, ev, ofVal, tget, tput, ok, V.isUndef, initT, Ch.on, calleeOf, withArgs, ↓reduceIte, reduceCtorEq, Nat.reduceLT]
  refine acall_flat (by first | rfl | (simp only [xports, xport, hget]; rfl)) (c_term_Check t hl) rfl ?_
  try simp (maxSteps := 2000000) -implicitDefEqProofs only [zz, zE, evop, ev, ofVal, tget, tput, ok, V.isUndef, intBin, Ch.on, told, sliceOf, lenOf, resOf, resV, resVs, ↓reduceIte, reduceCtorEq, Nat.reduceLT, nilTest]
  simp (maxSteps := 2000000) -implicitDefEqProofs only [zz, ↓reduceIte, hc]
  refine wloop_count t.length (fun i => [(11, .d (.int .i64 i)), (10, .d (.int .i64 t.length)), (9, .d (.vec (t.map dW))), (3, .own 0 0 (cellsT (t.take i)).length)]) (fun i => [.dat false 1 ((cellsT (t.take i)).map dI)]) (fun _ => True) trivial ?_ (fun i hi _ => ?_) (fun _ => ?_)
  · refine Weak.pick [7] (by simp) (by simp) rfl (fun q hq => ?_) (fun i hi => ?_)
    · simp only [List.mem_cons, List.not_mem_nil, or_false] at hq
      rcases hq with rfl | rfl | rfl | rfl
      · exact .same _
      · exact .same _
      · exact .same _
      · exact .nils 0 1 rfl
    · obtain rfl : i = 0 := by simpa using hi
      exact .virt 1 rfl rfl
  · have hx : t[i]? = some t[i] := List.getElem?_eq_getElem hi
    have h' : ((i : Int) < (t.length : Int)) := by omega
    have hw : IntKind.i64.wrap ((i : Int) + 1) = ((i + 1 : Nat) : Int) := by rw [wrap_in (by omega)]; omega
    have hT : t.take (i + 1) = t.take i ++ [t[i]] := by rw [List.take_add_one, hx]; rfl
    have hs := cellsT_snoc (t.take i) t[i]
    rw [← hT] at hs
    simp (maxSteps := 2000000) -implicitDefEqProofs only [zz, zE, evop, ev, ofVal, tget, tput, ok, V.isUndef, intBin, Ch.on, told, hget, hput, V.cells, D.cells, V.one, V.toD, loadD, structAt, sliceOf, partsD, Blk.width, elems, splice, ↓reduceIte, reduceCtorEq, Nat.reduceLT, Nat.reduceEqDiff, Nat.reduceAdd, Nat.reduceMul, Nat.reduceLeDiff, nilTest, dW, h', List.getElem?_map, hx, Option.map_some, Int.natCast_nonneg]
    split
    · rename_i h2
      rw [if_pos (by simpa using h2)] at hs
      simp (maxSteps := 2000000) -implicitDefEqProofs only [hw]
      refine ⟨⟨by have := cellsT_len (t.take i); simp only [List.length_take] at this; omega, okEl_I [t[i].2]⟩, ?_⟩
      have e6 : List.take (cellsT (t.take i)).length ((cellsT (t.take i)).map dI) = (cellsT (t.take i)).map dI := by rw [List.take_of_length_le]; simp
      rw [hs, e6, List.length_append, List.map_append]
      refine Weak.pick [3] (by decide) (by simp) rfl (fun q hq => ?_) (fun i hi => ?_)
      · simp only [List.mem_cons, List.not_mem_nil, or_false] at hq
        rcases hq with rfl | rfl | rfl | rfl <;> exact .same _
      · match i, hi with
        | 0, _ => exact .dat _ _ _ rfl rfl
        | i + 1, hi => exact absurd hi (by simp)
    · rename_i h2
      rw [if_neg (by simpa using h2)] at hs
      simp (maxSteps := 2000000) -implicitDefEqProofs only [hw]
      rw [hs]
      refine Weak.pick [0] (by decide) (by simp) rfl (fun q hq => ?_) (fun i hi => ?_)
      · simp only [List.mem_cons, List.not_mem_nil, or_false] at hq
        rcases hq with rfl | rfl | rfl | rfl <;> exact .same _
      · match i, hi with
        | 0, _ => exact .dat _ _ _ rfl rfl
        | i + 1, hi => exact absurd hi (by simp)
  · have h' : ¬ ((t.length : Int) < (t.length : Int)) := by omega
    rw [List.take_length]
    simp (maxSteps := 2000000) -implicitDefEqProofs only [zz, evop, ev, tget, tput, ok, V.isUndef, intBin, Ch.on, calleeOf, withArgs, told, ↓reduceIte, Nat.reduceLT, Nat.reduceEqDiff, nilTest, h']
    refine acall_ref [0] (r_Sort_int (cellsT t) (by omega)) (by first | rfl | simp [renL, V.ren, frρ, renL_ds]) (by simp) rfl (by simp) (by simp) (by intro j hj; match j, hj with | 0, _ => exact ⟨by simp [hget], rfl⟩) ?_
    try simp (maxSteps := 2000000) -implicitDefEqProofs only [zz, evop, ev, tget, tput, ok, V.isUndef, Ch.on, calleeOf, withArgs, hput, ↓reduceIte, Nat.reduceLT, Nat.reduceEqDiff, Blk.ren, V.ren, renL, frameH, putL]
    have er : RSpec Tryz.prog 98 [.own 0 0 (cellsT t).length] [.dat false 1 ((srtI (cellsT t)).map dI)] (.own 0 0 (cmpZ (srtI (cellsT t))).length)
        [.dat false 1 ((cmpZ (srtI (cellsT t)) ++ List.replicate ((cellsT t).length - (cmpZ (srtI (cellsT t))).length) 0).map dI)] := by
      have := r_Compact_int (srtI (cellsT t)) (by rw [srtI_len]; omega)
      rw [srtI_len] at this
      exact this
    refine acall_ref [0] (er) (by first | rfl | simp [renL, V.ren, frρ, renL_ds]) (by simp) rfl (by simp) (by simp) (by intro j hj; match j, hj with | 0, _ => exact ⟨by simp [hget], rfl⟩) ?_
    try simp (maxSteps := 2000000) -implicitDefEqProofs only [zz, evop, ev, tget, tput, ok, V.isUndef, Ch.on, hput, resOf, resV, resVs, ↓reduceIte, Nat.reduceLT, Nat.reduceSub, Blk.ren, V.ren, frameH, putL, frρ]
    refine Weak.pick [0] (by decide) (by simp) rfl (fun q hq => ?_) (fun i hi => ?_)
    · simp only [List.mem_cons, List.not_mem_nil, or_false] at hq
      rcases hq with rfl <;> exact .same _
    · match i, hi with
      | 0, _ => exact .dat _ _ _ rfl rfl
      | i + 1, hi => exact absurd hi (by simp)

theorem cmpZ_zero (zs : List Int) : (cmpZ zs).length = 0 ↔ zs = [] := by
  cases zs <;> simp [cmpZ, cmpct]
theorem srtI_nil (zs : List Int) : srtI zs = [] ↔ zs = [] := by
  rw [← List.length_eq_zero_iff, srtI_len, List.length_eq_zero_iff]
theorem cellsT_nil (t : List (Int × Int)) : cellsT t = [] ↔ (t.any fun o => o.1 == 2) = false := by
  unfold cellsT
  simp

def reckT (t : List (Int × Int)) : Bool := decide (termC t = 0) && !(t.any fun o => o.1 == 2)
theorem c_reckons (t : List (Int × Int)) (hl : t.length ≤ 1000000) : CSpec Tryz.prog 161 [.vec (t.map dW)] (.bool (reckT t)) := by
  refine CSpec.of_awp envOf_ok hmix Tryz.func161 rfl (fun args w => Tryz.call161 args w) (by simp [Tryz.f161]) ?_
  simp only [Tryz.f161]
  simp (maxSteps := 2000000) -implicitDefEqProofs only [zz, evop, ev, ofVal, tget, tput, ok, V.isUndef, initT, Ch.on, calleeOf, withArgs, ↓reduceIte, reduceCtorEq, Nat.reduceLT]
  refine acall_flat (by first | rfl | (simp only [xports, xport, hget]; rfl)) (c_term_Check t hl) rfl ?_
  try simp (maxSteps := 2000000) -implicitDefEqProofs only [zz, evop, ev, ofVal, tget, tput, ok, V.isUndef, intBin, guardOf, Ch.on, calleeOf, withArgs, xport, resOf, resV, resVs, ↓reduceIte, reduceCtorEq, Nat.reduceLT, Nat.reduceEqDiff, nilTest]
  by_cases h0 : termC t = 0
  · have hz : (((cmpZ (srtI (cellsT t))).length : Int) == 0) = !(t.any fun o => o.1 == 2) := by
      have := (cmpZ_zero (srtI (cellsT t))).trans ((srtI_nil _).trans (cellsT_nil t))
      rw [Bool.eq_iff_iff]
      simp only [beq_iff_eq, Bool.not_eq_true', ← this]
      omega
    have e : reckT t = !(t.any fun o => o.1 == 2) := by unfold reckT; rw [decide_eq_true h0, Bool.true_and]
    have e0 : (termC t == 0) = true := by simpa using h0
    rw [e]
    simp (maxSteps := 2000000) -implicitDefEqProofs only [↓reduceIte, e0]
    refine acall_own (by first | rfl | (simp only [xports, xport, hget]; rfl)) (o_Cells t hl h0) ?_
    try simp (maxSteps := 2000000) -implicitDefEqProofs only [zz, zE, evop, ev, ofVal, tget, tput, ok, V.isUndef, intBin, guardOf, Ch.on, xport, tids, tidss, hget, freeze, sliceOf, lenOf, resOf, resV, resVs, ↓reduceIte, Nat.reduceLT, Nat.reduceEqDiff, nilTest, shiftH, Blk.ren, V.ren]
    rw [hz]
  · have e0 : (termC t == 0) = false := by simpa using h0
    have e : reckT t = false := by unfold reckT; rw [decide_eq_false h0, Bool.false_and]
    rw [e]
    simp (maxSteps := 2000000) -implicitDefEqProofs only [zz, ↓reduceIte, e0]

/-- Number by number. -/
def cellsR (t : List (Int × Int)) (n : Nat) : List Int := ((List.range n).map fun (i : Nat) => (i : Int)).filter fun c => t.any fun o => o.1 == 2 && o.2 == c
theorem cellsR_succ (t : List (Int × Int)) (n : Nat) : cellsR t (n + 1) = if (t.any fun o => o.1 == 2 && o.2 == (n : Int)) then cellsR t n ++ [(n : Int)] else cellsR t n := by
  unfold cellsR
  rw [List.range_succ, List.map_append, List.filter_append]
  by_cases h : (t.any fun o => o.1 == 2 && o.2 == (n : Int)) <;> simp [h]
theorem cellsR_len (t : List (Int × Int)) (n : Nat) : (cellsR t n).length ≤ n := by
  unfold cellsR
  refine Nat.le_trans (List.length_filter_le ..) (by simp)

theorem c_r07_Cells (t : List (Int × Int)) (hl : t.length ≤ 1000000) (hc : termC t = 0) : CSpec Tryz.prog 211 [.vec (t.map dW)] (.vec ((cellsR t 64).map dI)) := by
  refine CSpec.of_awp envOf_ok hmix Tryz.func211 rfl (fun args w => Tryz.call211 args w) (by simp [Tryz.f211]) ?_
  simp only [Tryz.f211]
  simp (maxSteps := 2000000) -implicitDefEqProofs only [zz, evop, ev, ofVal, tget, tput, ok, V.isUndef, initT, Ch.on, calleeOf, withArgs, ↓reduceIte, reduceCtorEq, Nat.reduceLT]
  refine acall_flat (by first | rfl | (simp only [xports, xport, hget]; rfl)) (c_r07_Check t hl) rfl ?_
  try simp (maxSteps := 2000000) -implicitDefEqProofs only [zz, evop, ev, ofVal, tget, tput, ok, V.isUndef, intBin, Ch.on, told, xport, resOf, resV, resVs, ↓reduceIte, Nat.reduceLT, nilTest]
  simp (maxSteps := 2000000) -implicitDefEqProofs only [zz, ↓reduceIte, hc]
  refine wloop_count 64 (fun i => [(4, .d (.int .i64 i)), (0, .d (.vec (t.map dW))), (3, .own 0 0 (cellsR t i).length)]) (fun i => [.dat false 1 ((cellsR t i).map dI)]) (fun _ => True) trivial ?_ (fun i hi _ => ?_) (fun _ => ?_)
  · refine Weak.pick [7] (by simp) (by simp) rfl (fun q hq => ?_) (fun i hi => ?_)
    · simp only [List.mem_cons, List.not_mem_nil, or_false] at hq
      rcases hq with rfl | rfl | rfl
      · exact .same _
      · exact .same _
      · exact .nils 0 1 rfl
    · obtain rfl : i = 0 := by simpa using hi
      exact .virt 1 rfl rfl
  · have h' : ((i : Int) < (64 : Int)) := by omega
    have hw : IntKind.i64.wrap ((i : Int) + 1) = ((i + 1 : Nat) : Int) := by rw [wrap_in (by omega)]; omega
    have hs := cellsR_succ t i
    have hle := cellsR_len t i
    simp (maxSteps := 2000000) -implicitDefEqProofs only [zz, evop, ev, ofVal, tget, tput, ok, V.isUndef, intBin, Ch.on, told, ↓reduceIte, Nat.reduceLT, nilTest, h']
    refine wloop_count t.length (fun j => [(6, .d (.int .i64 j)), (5, .d (.bool ((t.take j).any fun o => o.1 == 2 && o.2 == (i : Int)))), (4, .d (.int .i64 i)), (0, .d (.vec (t.map dW))), (3, .own 0 0 (cellsR t i).length)]) (fun _ => [.dat false 1 ((cellsR t i).map dI)]) (fun _ => True) trivial (Weak.sub (by simp [tget])) (fun j hj _ => ?_) (fun _ => ?_)
    · have hx : t[j]? = some t[j] := List.getElem?_eq_getElem hj
      have h9 : ((j : Int) < (t.length : Int)) := by omega
      have hw' : IntKind.i64.wrap ((j : Int) + 1) = ((j + 1 : Nat) : Int) := by rw [wrap_in (by omega)]; omega
      have hT : t.take (j + 1) = t.take j ++ [t[j]] := by rw [List.take_add_one, hx]; rfl
      rw [hT, List.any_append]
      generalize (t.take j).any (fun o => o.1 == 2 && o.2 == (i : Int)) = B
      cases B <;> by_cases h2 : (t[j].1 == 2) = true <;> simp (maxSteps := 2000000) -implicitDefEqProofs only [zz, zE, evop, ev, ofVal, tget, tput, ok, V.isUndef, intBin, guardOf, Ch.on, told, D.cells, loadD, structAt, sliceOf, lenOf, ↓reduceIte, reduceCtorEq, Nat.reduceLT, Nat.reduceEqDiff, Nat.reduceAdd, nilTest, dW, h9, h2, hw', List.getElem?_map, hx, Option.map_some, Int.natCast_nonneg] <;> (try refine Weak.sub ?_) <;> (try simp [tget, h2])
    · have h9 : ¬ ((t.length : Int) < (t.length : Int)) := by omega
      rw [List.take_length]
      cases hB : t.any fun o => o.1 == 2 && o.2 == (i : Int) with
      | false =>
        rw [hB] at hs
        simp (maxSteps := 2000000) -implicitDefEqProofs only [zz, zE, evop, ev, ofVal, tget, tput, ok, V.isUndef, intBin, Ch.on, told, sliceOf, lenOf, ↓reduceIte, reduceCtorEq, Nat.reduceLT, Nat.reduceEqDiff, nilTest, h9, hw]
        rw [hs]
        exact Weak.sub (by simp [tget])
      | true =>
        rw [hB] at hs
        simp (maxSteps := 2000000) -implicitDefEqProofs only [zz, zE, evop, ev, ofVal, tget, tput, ok, V.isUndef, intBin, Ch.on, told, hget, hput, V.cells, D.cells, V.one, V.toD, sliceOf, partsD, elems, lenOf, ↓reduceIte, reduceCtorEq, Nat.reduceLT, Nat.reduceEqDiff, Nat.reduceAdd, Nat.reduceMul, Nat.reduceLeDiff, nilTest, h9, hw]
        refine ⟨⟨by omega, okEl_I [(i : Int)]⟩, ?_⟩
        have e6 : List.take (cellsR t i).length ((cellsR t i).map dI) = (cellsR t i).map dI := by rw [List.take_of_length_le]; simp
        rw [hs, if_pos rfl, e6, List.length_append, List.map_append]
        refine Weak.pick [2] (by decide) (by simp) rfl (fun q hq => ?_) (fun i hi => ?_)
        · simp only [List.mem_cons, List.not_mem_nil, or_false] at hq
          rcases hq with rfl | rfl | rfl <;> exact .same _
        · match i, hi with
          | 0, _ => exact .dat _ _ _ rfl rfl
          | i + 1, hi => exact absurd hi (by simp)
  · have h' : ¬ (((64 : Nat) : Int) < 64) := by omega
    simp (maxSteps := 2000000) -implicitDefEqProofs only [zz, evop, ev, ofVal, tget, tput, ok, V.isUndef, intBin, Ch.on, told, xport, hget, resOf, resV, resVs, ↓reduceIte, reduceCtorEq, Nat.reduceLT, Nat.reduceEqDiff, nilTest, h']
    rw [List.take_of_length_le (by simp)]

theorem c_r08_reckons (t : List (Int × Int)) (hl : t.length ≤ 1000000) : CSpec Tryz.prog 165 [.vec (t.map dW)] (.bool (reckT t)) := by
  refine CSpec.of_awp envOf_ok hmix Tryz.func165 rfl (fun args w => Tryz.call165 args w) (by simp [Tryz.f165]) ?_
  simp only [Tryz.f165]
  simp (maxSteps := 2000000) -implicitDefEqProofs only [zz, evop, ev, ofVal, tget, tput, ok, V.isUndef, initT, Ch.on, calleeOf, withArgs, ↓reduceIte, reduceCtorEq, Nat.reduceLT]
  refine acall_flat (by first | rfl | (simp only [xports, xport, hget]; rfl)) (c_r07_Check t hl) rfl ?_
  try simp (maxSteps := 2000000) -implicitDefEqProofs only [zz, evop, ev, ofVal, tget, tput, ok, V.isUndef, intBin, guardOf, Ch.on, calleeOf, withArgs, xport, resOf, resV, resVs, ↓reduceIte, reduceCtorEq, Nat.reduceLT, Nat.reduceEqDiff, nilTest]
  by_cases h0 : termC t = 0
  · have hz : (((cellsR t 64).length : Int) == 0) = !(t.any fun o => o.1 == 2) := by
      have key : (cellsR t 64).length = 0 ↔ (t.any fun o => o.1 == 2) = false := by
        obtain ⟨_, _, hm, _⟩ := termC_0 h0
        rw [List.length_eq_zero_iff]
        unfold cellsR
        rw [List.filter_eq_nil_iff, List.any_eq_false]
        constructor
        · intro h o ho h2
          have hmo := hm o ho
          have h2' : o.1 = 2 := by simpa using h2
          have hr : 0 ≤ o.2 ∧ o.2 < 64 := by
            unfold mayO at hmo; rw [h2'] at hmo; simp at hmo; omega
          refine h o.2 (List.mem_map.2 ⟨o.2.toNat, List.mem_range.2 (by omega), by omega⟩) ?_
          exact List.any_eq_true.2 ⟨o, ho, by simp [h2']⟩
        · intro h c hc hh
          obtain ⟨o, ho, h2⟩ := List.any_eq_true.1 hh
          exact h o ho (by simp at h2; simp [h2.1])
      rw [Bool.eq_iff_iff]
      simp only [beq_iff_eq, Bool.not_eq_true', ← key]
      omega
    have e : reckT t = !(t.any fun o => o.1 == 2) := by unfold reckT; rw [decide_eq_true h0, Bool.true_and]
    have e0 : (termC t == 0) = true := by simpa using h0
    rw [e]
    simp (maxSteps := 2000000) -implicitDefEqProofs only [↓reduceIte, e0]
    refine acall_ice (by first | rfl | (simp only [xports, xport, hget]; rfl)) (c_r07_Cells t hl h0) ?_
    try simp (maxSteps := 2000000) -implicitDefEqProofs only [zz, zE, evop, ev, ofVal, tget, tput, ok, V.isUndef, intBin, guardOf, Ch.on, xport, tids, tidss, freeze, sliceOf, lenOf, resOf, resV, resVs, ↓reduceIte, Nat.reduceLT, Nat.reduceEqDiff, nilTest]
    rw [hz]
  · have e0 : (termC t == 0) = false := by simpa using h0
    have e : reckT t = false := by unfold reckT; rw [decide_eq_false h0, Bool.false_and]
    rw [e]
    simp (maxSteps := 2000000) -implicitDefEqProofs only [zz, ↓reduceIte, e0]
end Go.Proofs.YtjhfpabldidlgaaGreat.AM
