/- The texts Ta, Fd, Fe, Gn, Tc, Am29, Td, Te, Tf, Tg, Th, Am31, Am32, Fy, Ff, Fg, Fh, Fs, Ti, Tj, Tk, Fq, Fr, Aa, joined. -/
import Derived.Sort.Grow
import Derived.Lib.SlicesCompact
import Derived.Test.YtjhfpabldidlgaaGreatShS
import Derived.Test.YtjhfpabldidlgaaGreatShC
import Derived.RangeFuncNested
import Derived.RangeFuncBound
import Derived.RangeFuncCalls
import Derived.RangeFuncLeaves
import Derived.RangeFuncBox
import Derived.Shelf.Abstract
import Derived.Shelf.RegionOpen
import Derived.OwnWalkIn
import Derived.TacticsInMore
import Derived.LoopNIn
import Derived.LoopIn
import Derived.Test.YtjhfpabldidlgaaGreatJD2

set_option linter.all false
set_option maxRecDepth 100000
set_option maxHeartbeats 4000000
namespace Go.Proofs.YtjhfpabldidlgaaGreat.AM
open Go Go.RowKit

def w32 (n : Int) : Int := (n + 2147483648) % 4294967296 - 2147483648
def tr (b : Bool) : Int := if b = true then 1 else 0
theorem c_Truth (b : Bool) : CSpec Tryz.prog 216 [.bool b] (.int .i64 (tr b)) := by
  refine CSpec.of_awp envOf_ok hmix Tryz.func216 rfl (fun args w => Tryz.call216 args w) (by simp [Tryz.f216]) ?_
  simp only [Tryz.f216]
  simp (maxSteps := 2000000) -implicitDefEqProofs only [zz, evop, ev, ofVal, tget, tput, ok, V.isUndef, initT, Ch.on, told, xport, resOf, resV, resVs, ↓reduceIte, reduceCtorEq, Nat.reduceLT]
  unfold tr
  cases b <;> simp
theorem c_Wrap (n : Int) : CSpec Tryz.prog 233 [.int .i64 n] (.int .i64 (w32 n)) := by
  refine CSpec.of_awp envOf_ok hmix Tryz.func233 rfl (fun args w => Tryz.call233 args w) (by simp [Tryz.f233]) ?_
  simp only [Tryz.f233]
  simp (maxSteps := 2000000) -implicitDefEqProofs only [zz, zE, evop, ev, ofVal, tget, tput, ok, V.isUndef, initT, Ch.on, xport, resOf, resV, resVs, ↓reduceIte, reduceCtorEq, Nat.reduceLT]
  have h : IntKind.i64.wrap (IntKind.i32.wrap (IntKind.u32.wrap (IntKind.u64.wrap n))) = w32 n := by
    rw [IntKind.wrap_i64, IntKind.wrap_i32, IntKind.wrap_u32, IntKind.wrap_u64]
    unfold w32; omega
  rw [h]
theorem wrap64_w32 (n : Int) : w32 (IntKind.i64.wrap n) = w32 n := by rw [IntKind.wrap_i64]; unfold w32; omega
theorem c_Add (a b : Int) : CSpec Tryz.prog 234 [.int .i64 a, .int .i64 b] (.int .i64 (w32 (w32 a + w32 b))) := by
  refine CSpec.of_awp envOf_ok hmix Tryz.func234 rfl (fun args w => Tryz.call234 args w) (by simp [Tryz.f234]) ?_
  simp only [Tryz.f234]
  simp (maxSteps := 2000000) -implicitDefEqProofs only [zz, evop, ev, ofVal, tget, tput, ok, V.isUndef, initT, Ch.on, calleeOf, withArgs, ↓reduceIte, reduceCtorEq, Nat.reduceLT]
  refine acall_flat' (c_Wrap a) rfl ?_
  try simp (maxSteps := 2000000) -implicitDefEqProofs only [zz, evop, ev, tget, tput, ok, V.isUndef, Ch.on, calleeOf, withArgs, ↓reduceIte, reduceCtorEq, Nat.reduceLT, Nat.reduceEqDiff]
  refine acall_flat' (c_Wrap b) rfl ?_
  try simp (maxSteps := 2000000) -implicitDefEqProofs only [zz, evop, ev, tget, tput, intBin, Ch.on, calleeOf, withArgs, ↓reduceIte, Nat.reduceLT, Nat.reduceEqDiff, nilTest]
  refine acall_flat' (c_Wrap _) rfl ?_
  try simp (maxSteps := 2000000) -implicitDefEqProofs only [zz, evop, ev, tget, tput, ok, V.isUndef, Ch.on, xport, resOf, resV, resVs, ↓reduceIte, Nat.reduceLT]
  rw [wrap64_w32]
theorem c_Sub (a b : Int) : CSpec Tryz.prog 235 [.int .i64 a, .int .i64 b] (.int .i64 (w32 (w32 a - w32 b))) := by
  refine CSpec.of_awp envOf_ok hmix Tryz.func235 rfl (fun args w => Tryz.call235 args w) (by simp [Tryz.f235]) ?_
  simp only [Tryz.f235]
  simp (maxSteps := 2000000) -implicitDefEqProofs only [zz, evop, ev, ofVal, tget, tput, ok, V.isUndef, initT, Ch.on, calleeOf, withArgs, ↓reduceIte, reduceCtorEq, Nat.reduceLT]
  refine acall_flat' (c_Wrap a) rfl ?_
  try simp (maxSteps := 2000000) -implicitDefEqProofs only [zz, evop, ev, tget, tput, ok, V.isUndef, Ch.on, calleeOf, withArgs, ↓reduceIte, reduceCtorEq, Nat.reduceLT, Nat.reduceEqDiff]
  refine acall_flat' (c_Wrap b) rfl ?_
  try simp (maxSteps := 2000000) -implicitDefEqProofs only [zz, evop, ev, tget, tput, intBin, Ch.on, calleeOf, withArgs, ↓reduceIte, Nat.reduceLT, Nat.reduceEqDiff, nilTest]
  refine acall_flat' (c_Wrap _) rfl ?_
  try simp (maxSteps := 2000000) -implicitDefEqProofs only [zz, evop, ev, tget, tput, ok, V.isUndef, Ch.on, xport, resOf, resV, resVs, ↓reduceIte, Nat.reduceLT]
  rw [wrap64_w32]
theorem c_Mul (a b : Int) : CSpec Tryz.prog 236 [.int .i64 a, .int .i64 b] (.int .i64 (w32 (w32 a * w32 b))) := by
  refine CSpec.of_awp envOf_ok hmix Tryz.func236 rfl (fun args w => Tryz.call236 args w) (by simp [Tryz.f236]) ?_
  simp only [Tryz.f236]
  simp (maxSteps := 2000000) -implicitDefEqProofs only [zz, evop, ev, ofVal, tget, tput, ok, V.isUndef, initT, Ch.on, calleeOf, withArgs, ↓reduceIte, reduceCtorEq, Nat.reduceLT]
  refine acall_flat' (c_Wrap a) rfl ?_
  try simp (maxSteps := 2000000) -implicitDefEqProofs only [zz, evop, ev, tget, tput, ok, V.isUndef, Ch.on, calleeOf, withArgs, ↓reduceIte, reduceCtorEq, Nat.reduceLT, Nat.reduceEqDiff]
  refine acall_flat' (c_Wrap b) rfl ?_
  try simp (maxSteps := 2000000) -implicitDefEqProofs only [zz, evop, ev, tget, tput, intBin, Ch.on, calleeOf, withArgs, ↓reduceIte, Nat.reduceLT, Nat.reduceEqDiff, nilTest]
  refine acall_flat' (c_Wrap _) rfl ?_
  try simp (maxSteps := 2000000) -implicitDefEqProofs only [zz, evop, ev, tget, tput, ok, V.isUndef, Ch.on, xport, resOf, resV, resVs, ↓reduceIte, Nat.reduceLT]
  rw [wrap64_w32]
end Go.Proofs.YtjhfpabldidlgaaGreat.AM

set_option linter.all false
set_option maxRecDepth 100000
set_option maxHeartbeats 4000000
namespace Go.Proofs.YtjhfpabldidlgaaGreat.AM
open Go Go.RowKit

end Go.Proofs.YtjhfpabldidlgaaGreat.AM

set_option linter.all false
set_option maxRecDepth 100000
set_option maxHeartbeats 4000000
namespace Go.Proofs.YtjhfpabldidlgaaGreat.AM
open Go Go.RowKit

theorem o_Clone_W (els : List D) (h1 : els.length * 16 ≤ 140737488355328) (h2 : ∀ e ∈ els, okEl 2 e = true) : FSpec Tryz.prog 128 [.vec els] (.own 0 0 els.length) [.dat false 2 els] := by
  refine FSpec.of_awp envOf_ok hmix Tryz.func128 rfl (fun args w => Tryz.call128 args w) (by simp [Tryz.f128]) ?_
  simp only [Tryz.f128]
  simp (maxSteps := 2000000) -implicitDefEqProofs only [zz, zE, evop, ev, ofVal, tget, tput, ok, V.isUndef, initT, Ch.on, told, hget, hput, V.cells, V.isAgg, V.clo, clos, sliceOf, partsD, elems, resOf, resV, resVs, ↓reduceIte, reduceCtorEq, Nat.reduceLT, Nat.reduceEqDiff, Nat.reduceMul, Nat.reduceLeDiff, nilTest]
  refine ⟨fun h => ?_, ⟨h1, h2⟩, ?_⟩
  · subst h
    refine Weak.pick [7] (by simp) (by simp) rfl (fun q hq => ?_) (fun i hi => ?_)
    · obtain rfl : q = _ := by simpa using hq
      exact .nils 0 2 rfl
    · obtain rfl : i = 0 := by simpa using hi
      exact .virt 2 rfl rfl
  · refine Weak.pick [1] (by simp) (by simp) rfl (fun q hq => ?_) (fun i hi => ?_)
    · obtain rfl : q = _ := by simpa using hq
      exact .same _
    · obtain rfl : i = 0 := by simpa using hi
      exact .dat false 2 els rfl rfl

theorem o_Clone_int (els : List D) (h1 : els.length * 8 ≤ 140737488355328) (h2 : ∀ e ∈ els, okEl 1 e = true) : FSpec Tryz.prog 171 [.vec els] (.own 0 0 els.length) [.dat false 1 els] := by
  refine FSpec.of_awp envOf_ok hmix Tryz.func171 rfl (fun args w => Tryz.call171 args w) (by simp [Tryz.f171]) ?_
  simp only [Tryz.f171]
  simp (maxSteps := 2000000) -implicitDefEqProofs only [zz, zE, evop, ev, ofVal, tget, tput, ok, V.isUndef, initT, Ch.on, told, hget, hput, V.cells, V.isAgg, V.clo, clos, sliceOf, partsD, elems, resOf, resV, resVs, ↓reduceIte, reduceCtorEq, Nat.reduceLT, Nat.reduceEqDiff, Nat.reduceMul, Nat.reduceLeDiff, nilTest]
  refine ⟨fun h => ?_, ⟨h1, h2⟩, ?_⟩
  · subst h
    refine Weak.pick [7] (by simp) (by simp) rfl (fun q hq => ?_) (fun i hi => ?_)
    · obtain rfl : q = _ := by simpa using hq
      exact .nils 0 1 rfl
    · obtain rfl : i = 0 := by simpa using hi
      exact .virt 1 rfl rfl
  · refine Weak.pick [1] (by simp) (by simp) rfl (fun q hq => ?_) (fun i hi => ?_)
    · obtain rfl : q = _ := by simpa using hq
      exact .same _
    · obtain rfl : i = 0 := by simpa using hi
      exact .dat false 1 els rfl rfl

theorem o_Clone_C (els : List D) (h1 : els.length * 16 ≤ 140737488355328) (h2 : ∀ e ∈ els, okEl 2 e = true) : FSpec Tryz.prog 157 [.vec els] (.own 0 0 els.length) [.dat false 2 els] := by
  refine FSpec.of_awp envOf_ok hmix Tryz.func157 rfl (fun args w => Tryz.call157 args w) (by simp [Tryz.f157]) ?_
  simp only [Tryz.f157]
  simp (maxSteps := 2000000) -implicitDefEqProofs only [zz, zE, evop, ev, ofVal, tget, tput, ok, V.isUndef, initT, Ch.on, told, hget, hput, V.cells, V.isAgg, V.clo, clos, sliceOf, partsD, elems, resOf, resV, resVs, ↓reduceIte, reduceCtorEq, Nat.reduceLT, Nat.reduceEqDiff, Nat.reduceMul, Nat.reduceLeDiff, nilTest]
  refine ⟨fun h => ?_, ⟨h1, h2⟩, ?_⟩
  · subst h
    refine Weak.pick [7] (by simp) (by simp) rfl (fun q hq => ?_) (fun i hi => ?_)
    · obtain rfl : q = _ := by simpa using hq
      exact .nils 0 2 rfl
    · obtain rfl : i = 0 := by simpa using hi
      exact .virt 2 rfl rfl
  · refine Weak.pick [1] (by simp) (by simp) rfl (fun q hq => ?_) (fun i hi => ?_)
    · obtain rfl : q = _ := by simpa using hq
      exact .same _
    · obtain rfl : i = 0 := by simpa using hi
      exact .dat false 2 els rfl rfl


theorem okEl_W (l : List (Int × Int)) : ∀ e ∈ l.map dW, okEl 2 e = true := by
  intro e he
  obtain ⟨w, _, rfl⟩ := List.mem_map.1 he
  rfl
theorem okEl_I (l : List Int) : ∀ e ∈ l.map dI, okEl 1 e = true := by
  intro e he
  obtain ⟨w, _, rfl⟩ := List.mem_map.1 he
  rfl

def rLg (l : Lg) : V := .agg [.own 0 0 l.1.length, .own 1 0 l.2.length]
def hLg (l : Lg) : Heap := [.dat false 2 (l.1.map dW), .dat false 1 (l.2.map dI)]

theorem o_own (l : Lg) (h1 : l.1.length ≤ 1000000) (h2 : l.2.length ≤ 1000000) : FSpec Tryz.prog 164 [dLg l] (rLg l) (hLg l) := by
  refine FSpec.of_awp envOf_ok hmix Tryz.func164 rfl (fun args w => Tryz.call164 args w) (by simp [Tryz.f164]) ?_
  simp only [Tryz.f164]
  simp (maxSteps := 2000000) -implicitDefEqProofs only [zz, zE, evop, ev, tget, V.isUndef, initT, V.cells, ↓reduceIte]
  unfold dLg
  simp (maxSteps := 2000000) -implicitDefEqProofs only [zz, zE, evop, tput, Ch.on, hput, ↓reduceIte, Nat.reduceLT]
  refine wdraw_plan [⟨[], false, [6, 7], [], false⟩, ⟨[0], false, [6, 7], [], false⟩, ⟨[0, 1], false, [6, 7], [], false⟩, ⟨[], false, [3, 4, 5], [0, 1, 2], false⟩, ⟨[3], false, [3, 4, 5], [0, 1, 2], false⟩, ⟨[0, 1, 2, 3, 4], true, [], [], false⟩, ⟨[0, 1, 2, 3, 4, 5], true, [], [], false⟩, ⟨[0, 1, 2, 3, 4, 5, 6], true, [], [], false⟩] (by decide) ?_
  simp (maxSteps := 2000000) -implicitDefEqProofs only [zz, zE, evop, ev, ofVal, tget, tput, ok, V.isUndef, calleeOf, withArgs, hget, hput, D.cells, loadD, structAt, Blk.width, ↓reduceIte, reduceCtorEq, Nat.reduceLT, Nat.reduceEqDiff, Nat.reduceAdd, Nat.reduceLeDiff]
  refine dcall_own' (o_Clone_W (l.1.map dW) (by simp; omega) (okEl_W _)) rfl ?_
  try simp (maxSteps := 2000000) -implicitDefEqProofs only [zz, V.ren]
  refine acall_own' (o_Clone_int (l.2.map dI) (by simp; omega) (okEl_I _)) ?_
  try simp (maxSteps := 2000000) -implicitDefEqProofs only [zz, zE, evop, ev, tget, tput, ok, V.isUndef, Ch.on, tids, tidss, hget, hput, freeze, V.cells, V.one, partsV, splice, resOf, resV, resVs, ↓reduceIte, Nat.reduceLT, Nat.reduceEqDiff, Nat.reduceAdd, Nat.reduceLeDiff, shiftH, Blk.ren, V.ren]
  refine Weak.pick [4, 7] (by decide) (by simp) rfl (fun q hq => ?_) (fun i hi => ?_)
  · obtain rfl : q = _ := by simpa using hq
    exact .same _
  · match i, hi with
    | 0, _ => exact .dat _ _ _ rfl rfl
    | 1, _ => exact .dat _ _ _ rfl rfl
    | i + 2, hi => exact absurd hi (by simp [hLg])
end Go.Proofs.YtjhfpabldidlgaaGreat.AM

set_option linter.all false
set_option maxRecDepth 100000
set_option maxHeartbeats 4000000
namespace Go.Proofs.YtjhfpabldidlgaaGreat.AM
open Go Go.RowKit

def dC (c : Bool × Int) : D := .agg [.bool c.1, .int .i64 c.2]
theorem okEl_C (l : List (Bool × Int)) : ∀ e ∈ l.map dC, okEl 2 e = true := by
  intro e he
  obtain ⟨w, _, rfl⟩ := List.mem_map.1 he
  rfl
def wrongC (c : Bool × Int) : Bool := !spanR c.2 || (!c.1 && (c.2 != 0))
def heapR (h : List (Bool × Int)) : Bool := decide (1 ≤ h.length) && decide (h.length ≤ 64) && !(h.any wrongC)
def thereB (h : List (Bool × Int)) (c : Int) : Bool := decide (0 ≤ c) && decide (c < (h.length : Int)) && ((h[c.toNat]?).getD (false, 0)).1

theorem c_IndexFunc_C (ns : List (Bool × Int)) (f : Nat) (cap : List D) (p : Bool × Int → Bool) (hl : ns.length ≤ 1000000) (hcap : cap.length ≤ 8) (hp : ∀ n ∈ ns, CSpec Tryz.prog f (dC n :: cap) (.bool (p n))) : CSpec Tryz.prog 166 [.vec (ns.map dC), .func (f, 0) cap] (.int .i64 (idxOf p ns)) := by
  refine CSpec.of_awp envOf_ok hmix Tryz.func166 rfl (fun args w => Tryz.call166 args w) (by simp [Tryz.f166]) ?_
  simp only [Tryz.f166]
  simp (maxSteps := 2000000) -implicitDefEqProofs only [zz, zE, evop, ev, ofVal, tget, tput, ok, V.isUndef, initT, Ch.on, sliceOf, lenOf, ↓reduceIte, reduceCtorEq, Nat.reduceLT, Int.reduceNeg]
  refine wloop_ind (σ := Nat) (fun i => ns.length - i) (fun i => [(8, .d (.int .i64 i)), (7, .d (.int .i64 ns.length)), (4, .d (.int .i64 0)), (0, .d (.vec (ns.map dC))), (1, .d (.func (f, 0) cap))]) (fun _ => []) (fun i => i ≤ ns.length ∧ ∀ j < i, ∀ x, ns[j]? = some x → p x = false) 0 ⟨Nat.zero_le _, fun j hj => by omega⟩ (Weak.sub (by simp [tget])) ?_
  intro i ⟨hi, hb⟩
  rcases Nat.lt_or_ge i ns.length with h | h
  · have hx : ns[i]? = some ns[i] := List.getElem?_eq_getElem h
    have h' : ((i : Int) < (ns.length : Int)) := by omega
    simp (maxSteps := 2000000) -implicitDefEqProofs only [zz, zE, evop, ev, tget, tput, ok, V.isUndef, intBin, Ch.on, calleeOf, withArgs, told, D.cells, loadD, ↓reduceIte, reduceCtorEq, Nat.reduceLT, Nat.reduceEqDiff, Nat.reduceAdd, Nat.reduceLeDiff, Int.reduceNeg, nilTest, dC, h', List.getElem?_map, hx, Option.map_some, Int.natCast_nonneg]
    refine acall_flat (ds := dC ns[i] :: cap) (by simp only [xports, xport, xports_ds cap 39 (by omega), dC]) (hp _ (List.getElem_mem h)) rfl ?_
    simp (maxSteps := 2000000) -implicitDefEqProofs only [zz, evop, ev, ofVal, tget, tput, ok, V.isUndef, intBin, Ch.on, told, xport, resOf, resV, resVs, ↓reduceIte, Nat.reduceLT, Nat.reduceEqDiff, Int.reduceNeg, nilTest]
    split
    · rename_i hpx
      simp [idxOf, findIdx_at h hb hpx]
    · rename_i hpx
      refine ⟨i + 1, ⟨h, fun j hj x hxj => ?_⟩, by omega, Weak.sub ?_⟩
      · rcases Nat.lt_or_ge j i with hji | hji
        · exact hb j hji x hxj
        · have : j = i := by omega
          subst this
          rw [hx] at hxj; cases hxj
          simpa using hpx
      · have hw : IntKind.i64.wrap ((i : Int) + 1) = (i : Int) + 1 := by rw [IntKind.wrap_i64]; omega
        simp [tget, hw]
  · have h' : ¬ ((i : Int) < (ns.length : Int)) := by omega
    simp (maxSteps := 2000000) -implicitDefEqProofs only [zz, evop, ev, ofVal, tget, tput, ok, V.isUndef, intBin, Ch.on, told, xport, resOf, resV, resVs, ↓reduceIte, Nat.reduceLT, Nat.reduceEqDiff, Int.reduceNeg, nilTest, h']
    have : ns.findIdx? p = none := by
      rw [List.findIdx?_eq_none_iff]
      intro x hx
      obtain ⟨j, hj, rfl⟩ := List.getElem_of_mem hx
      simpa using hb j (by omega) _ (List.getElem?_eq_getElem hj)
    simp [idxOf, this]

theorem c_ContainsFunc_C (ns : List (Bool × Int)) (f : Nat) (cap : List D) (p : Bool × Int → Bool) (hl : ns.length ≤ 1000000) (hcap : cap.length ≤ 8) (hp : ∀ n ∈ ns, CSpec Tryz.prog f (dC n :: cap) (.bool (p n))) : CSpec Tryz.prog 110 [.vec (ns.map dC), .func (f, 0) cap] (.bool (ns.any p)) := by
  refine CSpec.of_awp envOf_ok hmix Tryz.func110 rfl (fun args w => Tryz.call110 args w) (by simp [Tryz.f110]) ?_
  simp only [Tryz.f110]
  simp (maxSteps := 2000000) -implicitDefEqProofs only [zz, evop, ev, ofVal, tget, tput, ok, V.isUndef, initT, Ch.on, calleeOf, withArgs, ↓reduceIte, reduceCtorEq, Nat.reduceLT, Nat.reduceEqDiff]
  refine acall_flat' (c_IndexFunc_C ns f cap p hl hcap hp) rfl ?_
  try simp (maxSteps := 2000000) -implicitDefEqProofs only [zz, evop, ev, ofVal, tget, tput, ok, V.isUndef, intBin, Ch.on, xport, resOf, resV, resVs, ↓reduceIte, Nat.reduceLT, nilTest]
  rw [idxOf_nonneg]


theorem c_heap_wrong (c : Bool × Int) : CSpec Tryz.prog 111 [dC c] (.bool (wrongC c)) := by
  refine CSpec.of_awp envOf_ok hmix Tryz.func111 rfl (fun args w => Tryz.call111 args w) (by simp [Tryz.f111]) ?_
  simp only [Tryz.f111]
  simp (maxSteps := 2000000) -implicitDefEqProofs only [zz, zE, evop, ev, ofVal, tget, tput, ok, V.isUndef, initT, Ch.on, calleeOf, withArgs, hget, hput, V.cells, structAt, Blk.width, ↓reduceIte, reduceCtorEq, Nat.reduceLT, Nat.reduceEqDiff, Nat.reduceAdd, dC]
  refine acall_flat' (c_span_Right _) rfl ?_
  try simp (maxSteps := 2000000) -implicitDefEqProofs only [zz, zE, evop, ev, ofVal, tget, tput, ok, V.isUndef, intBin, guardOf, Ch.on, xport, hget, structAt, Blk.width, resOf, resV, resVs, ↓reduceIte, reduceCtorEq, Nat.reduceLT, Nat.reduceEqDiff, Nat.reduceAdd, nilTest]
  unfold wrongC
  cases hv : spanR c.2
  · simp (maxSteps := 2000000) -implicitDefEqProofs only [zz, ↓reduceIte]
    simp
  · simp (maxSteps := 2000000) -implicitDefEqProofs only [zz, ↓reduceIte]
    cases hc : c.1
    · simp (maxSteps := 2000000) -implicitDefEqProofs only [zz, ↓reduceIte]
      simp
    · simp (maxSteps := 2000000) -implicitDefEqProofs only [zz, ↓reduceIte]
      simp

theorem c_heap_Right (h : List (Bool × Int)) : CSpec Tryz.prog 62 [.vec (h.map dC)] (.bool (heapR h)) := by
  refine CSpec.of_awp envOf_ok hmix Tryz.func62 rfl (fun args w => Tryz.call62 args w) (by simp [Tryz.f62]) ?_
  simp only [Tryz.f62]
  simp (maxSteps := 2000000) -implicitDefEqProofs only [zz, zE, evop, ev, ofVal, tget, tput, ok, V.isUndef, intBin, guardOf, initT, Ch.on, calleeOf, withArgs, xport, sliceOf, lenOf, resOf, resV, resVs, ↓reduceIte, reduceCtorEq, Nat.reduceLT, Nat.reduceEqDiff, nilTest]
  unfold heapR
  split
  · rename_i h1
    split
    · rename_i h2
      refine acall_flat' (c_ContainsFunc_C h _ [] wrongC (by omega) (by decide) (fun w _ => c_heap_wrong w)) rfl ?_
      try simp (maxSteps := 2000000) -implicitDefEqProofs only [zz, evop, ev, tget, tput, ok, V.isUndef, guardOf, Ch.on, xport, resOf, resV, resVs, ↓reduceIte, Nat.reduceLT, Nat.reduceEqDiff]
      rw [decide_eq_true (by omega : 1 ≤ h.length), decide_eq_true (by omega : h.length ≤ 64)]; simp
    · rename_i h2
      rw [decide_eq_false (by omega : ¬ h.length ≤ 64)]; simp
  · rename_i h1
    rw [decide_eq_false (by omega : ¬ 1 ≤ h.length)]; simp

theorem c_there (h : List (Bool × Int)) (c : Int) (hl : h.length ≤ 1000000) : CSpec Tryz.prog 158 [.vec (h.map dC), .int .i64 c] (.bool (thereB h c)) := by
  refine CSpec.of_awp envOf_ok hmix Tryz.func158 rfl (fun args w => Tryz.call158 args w) (by simp [Tryz.f158]) ?_
  simp only [Tryz.f158]
  simp (maxSteps := 2000000) -implicitDefEqProofs only [zz, zE, evop, ev, ofVal, tget, tput, ok, V.isUndef, intBin, guardOf, initT, Ch.on, xport, D.cells, sliceOf, lenOf, resOf, resV, resVs, ↓reduceIte, reduceCtorEq, Nat.reduceLT, Nat.reduceEqDiff, nilTest]
  unfold thereB
  split
  · rename_i h1
    split
    · rename_i h2
      have hx : h[c.toNat]? = some (h[c.toNat]'(by omega)) := List.getElem?_eq_getElem (by omega)
      simp (maxSteps := 2000000) -implicitDefEqProofs only [zz, zE, evop, ev, tget, tput, ok, V.isUndef, guardOf, Ch.on, xport, D.cells, loadD, structAt, resOf, resV, resVs, ↓reduceIte, reduceCtorEq, Nat.reduceLT, Nat.reduceEqDiff, Nat.reduceAdd, dC, List.getElem?_map, hx, Option.map_some, h1, h2]
      try simp [h1, h2]
    · rename_i h2
      simp [h2]
  · rename_i h1
    simp [h1]

theorem c_Put1 (w : Int × Int) : CSpec Tryz.prog 156 [dW w] (.bool (!spanR w.2)) := by
  refine CSpec.of_awp envOf_ok hmix Tryz.func156 rfl (fun args w => Tryz.call156 args w) (by simp [Tryz.f156]) ?_
  simp only [Tryz.f156]
  simp (maxSteps := 2000000) -implicitDefEqProofs only [zz, zE, evop, ev, ofVal, tget, tput, ok, V.isUndef, initT, Ch.on, calleeOf, withArgs, hget, hput, V.cells, structAt, Blk.width, ↓reduceIte, reduceCtorEq, Nat.reduceLT, Nat.reduceEqDiff, Nat.reduceAdd, dW]
  refine acall_flat' (c_span_Right _) rfl ?_
  try simp (maxSteps := 2000000) -implicitDefEqProofs only [zz, evop, ev, tget, tput, ok, V.isUndef, Ch.on, xport, resOf, resV, resVs, ↓reduceIte, Nat.reduceLT]

def setH (o : List (Bool × Int)) (w : Int × Int) : List (Bool × Int) := o.set w.1.toNat (((o[w.1.toNat]?).getD (false, 0)).1, w.2)
def putsH (h : List (Bool × Int)) (ws : List (Int × Int)) : List (Bool × Int) := ws.foldl setH h
theorem putsH_snoc (h : List (Bool × Int)) (ws : List (Int × Int)) (w : Int × Int) : putsH h (ws ++ [w]) = setH (putsH h ws) w := by simp [putsH]
theorem putsH_len (h : List (Bool × Int)) (ws : List (Int × Int)) : (putsH h ws).length = h.length := by
  have : ∀ (ws : List (Int × Int)) (o : List (Bool × Int)), (ws.foldl setH o).length = o.length := by
    intro ws
    induction ws with
    | nil => intro o; rfl
    | cons w r ih => intro o; rw [List.foldl_cons, ih]; simp [setH]
  exact this ws h
def heapPut (h : List (Bool × Int)) (ws : List (Int × Int)) : List (Bool × Int) × Int :=
  if heapR h = true ∧ ws.any (fun w => !spanR w.2) = false then (if ws.all (fun w => thereB h w.1) = true then (putsH h ws, 0) else (h, 3)) else (h, 1)

theorem c_heap_Put (h : List (Bool × Int)) (ws : List (Int × Int)) (hw : ws.length ≤ 1000000) : CSpec Tryz.prog 100 [.vec (h.map dC), .vec (ws.map dW)] (.tuple [.vec ((heapPut h ws).1.map dC), .int .i64 (heapPut h ws).2]) := by
  refine CSpec.of_awp envOf_ok hmix Tryz.func100 rfl (fun args w => Tryz.call100 args w) (by simp [Tryz.f100]) ?_
  simp only [Tryz.f100]
  simp (maxSteps := 2000000) -implicitDefEqProofs only [zz, evop, ev, ofVal, tget, tput, ok, V.isUndef, initT, Ch.on, calleeOf, withArgs, ↓reduceIte, reduceCtorEq, Nat.reduceLT]
  refine acall_flat' (c_heap_Right h) rfl ?_
  try simp (maxSteps := 2000000) -implicitDefEqProofs only [zz, evop, ev, ofVal, tget, tput, ok, V.isUndef, guardOf, Ch.on, calleeOf, withArgs, told, xport, xports, resOf, resV, resVs, ↓reduceIte, reduceCtorEq, Nat.reduceLT, Nat.reduceEqDiff]
  cases hr : heapR h
  · have e : heapPut h ws = (h, 1) := by simp [heapPut, hr]
    rw [e]
    simp (maxSteps := 2000000) -implicitDefEqProofs only [zz, ↓reduceIte]
  have hl : 1 ≤ h.length ∧ h.length ≤ 64 := by simp [heapR] at hr; omega
  simp (maxSteps := 2000000) -implicitDefEqProofs only [zz, ↓reduceIte]
  refine acall_flat' (c_ContainsFunc_W ws _ [] (fun w => !spanR w.2) (by omega) (by decide) (fun w _ => c_Put1 w)) rfl ?_
  try simp (maxSteps := 2000000) -implicitDefEqProofs only [zz, evop, ev, ofVal, tget, tput, ok, V.isUndef, Ch.on, calleeOf, withArgs, told, xport, xports, resOf, resV, resVs, ↓reduceIte, reduceCtorEq, Nat.reduceLT, Nat.reduceEqDiff]
  cases ha : ws.any (fun w => !spanR w.2)
  case' true =>
    have e : heapPut h ws = (h, 1) := by unfold heapPut; rw [if_neg (by rw [ha]; simp)]
    rw [e]
    simp (maxSteps := 2000000) -implicitDefEqProofs only [↓reduceIte]
  case' false =>
    simp (maxSteps := 2000000) -implicitDefEqProofs only [zz, ↓reduceIte]
    refine acall_own' (o_Clone_C (h.map dC) (by simp; omega) (okEl_C h)) ?_
    try simp (maxSteps := 2000000) -implicitDefEqProofs only [zz, zE, evop, ev, ofVal, tget, tput, ok, V.isUndef, Ch.on, tids, tidss, freeze, sliceOf, lenOf, ↓reduceIte, reduceCtorEq, Nat.reduceLT, Nat.reduceEqDiff, shiftH, Blk.ren, V.ren]
    refine wloop_count ws.length (fun i => [(21, .d (.int .i64 i)), (20, .d (.int .i64 ws.length)), (19, .d (.vec (ws.map dW))), (0, .d (.vec (h.map dC))), (6, .own 0 0 h.length)]) (fun i => [.dat false 2 ((putsH h (ws.take i)).map dC)]) (fun i => ∀ w ∈ ws.take i, thereB h w.1 = true) (by simp) (Weak.sub (by simp [tget])) (fun i hi hI => ?_) (fun hI => ?_)
    · have hx : ws[i]? = some ws[i] := List.getElem?_eq_getElem hi
      have h' : ((i : Int) < (ws.length : Int)) := by omega
      simp (maxSteps := 2000000) -implicitDefEqProofs only [zz, zE, evop, ev, tget, tput, ok, V.isUndef, intBin, Ch.on, calleeOf, withArgs, told, hget, hput, V.cells, D.cells, V.one, loadD, structAt, Blk.width, splice, ↓reduceIte, reduceCtorEq, Nat.reduceLT, Nat.reduceEqDiff, Nat.reduceAdd, Nat.reduceLeDiff, nilTest, dW, h', List.getElem?_map, hx, Option.map_some, Int.natCast_nonneg]
      refine acall_flat' (c_there h ws[i].1 (by omega)) rfl ?_
      try simp (maxSteps := 2000000) -implicitDefEqProofs only [zz, zE, evop, ev, ofVal, tget, tput, ok, V.isUndef, Ch.on, told, xport, xports, hget, V.cells, D.cells, V.one, V.clo, clos, structAt, Blk.width, splice, D.over, resOf, resV, resVs, ↓reduceIte, reduceCtorEq, Nat.reduceLT, Nat.reduceEqDiff, Nat.reduceAdd]
      cases ht : thereB h ws[i].1
      · simp (maxSteps := 2000000) -implicitDefEqProofs only [zz, ↓reduceIte]
        have e : heapPut h ws = (h, 3) := by
          unfold heapPut
          rw [if_pos ⟨hr, ha⟩, if_neg]
          intro hall
          have := List.all_eq_true.1 hall _ (List.getElem_mem hi)
          rw [ht] at this; cases this
        rw [e]
      · have ht' := ht
        unfold thereB at ht'
        simp only [Bool.and_eq_true, decide_eq_true_eq] at ht'
        simp (maxSteps := 2000000) -implicitDefEqProofs only [zz, ↓reduceIte, ht'.1.1, ht'.1.2]
        have hO : (putsH h (ws.take i))[ws[i].1.toNat]? = some ((putsH h (ws.take i))[ws[i].1.toNat]'(by rw [putsH_len]; omega)) := List.getElem?_eq_getElem (by rw [putsH_len]; omega)
        have ht2 : ws.take (i + 1) = ws.take i ++ [ws[i]] := by rw [List.take_succ, hx]; rfl
        have hP : (putsH h (ws.take (i + 1))).map dC = ((putsH h (ws.take i)).map dC).set ws[i].1.toNat (.agg [.bool ((putsH h (ws.take i))[ws[i].1.toNat]'(by rw [putsH_len]; omega)).1, .int .i64 ws[i].2]) := by
          rw [ht2, putsH_snoc, setH, hO, List.map_set]
          rfl
        have hw1 : IntKind.i64.wrap ((i : Int) + 1) = ((i + 1 : Nat) : Int) := by rw [wrap_in (by omega)]; omega
        simp (maxSteps := 2000000) -implicitDefEqProofs only [zz, evop, ev, ofVal, tget, tput, ok, V.isUndef, intBin, Ch.on, hput, ↓reduceIte, Nat.reduceLT, Nat.reduceEqDiff, Nat.reduceAdd, Nat.reduceLeDiff, nilTest, dC, hO, List.getElem?_map, Option.map_some]
        refine ⟨fun w hw2 => ?_, Weak.trims 1 ?_ ?_ ?_⟩
        · rw [ht2] at hw2
          rcases List.mem_append.1 hw2 with g | g
          · exact hI w g
          · obtain rfl : w = _ := by simpa using g
            exact ht
        · rw [hP]; rfl
        · simp [tget, hw1, V.lower]
        · simp [Blk.lower, lowerL, V.lower]
    · have h' : ¬ ((ws.length : Int) < (ws.length : Int)) := by omega
      simp (maxSteps := 2000000) -implicitDefEqProofs only [zz, evop, ev, ofVal, tget, tput, ok, V.isUndef, intBin, Ch.on, told, xport, xports, hget, resOf, resV, resVs, ↓reduceIte, reduceCtorEq, Nat.reduceLT, Nat.reduceEqDiff, nilTest, h']
      rw [List.take_length] at hI
      have e : heapPut h ws = (putsH h ws, 0) := by
        unfold heapPut
        rw [if_pos ⟨hr, ha⟩, if_pos (List.all_eq_true.2 hI)]
      rw [e, List.take_length, List.take_of_length_le (by simp [putsH_len])]

end Go.Proofs.YtjhfpabldidlgaaGreat.AM

set_option linter.all false
set_option maxRecDepth 100000
set_option maxHeartbeats 4000000
namespace Go.Proofs.YtjhfpabldidlgaaGreat.AM
open Go Go.RowKit

def takesO (o : Int × Int) : Int := if 4 ≤ o.1 ∧ o.1 ≤ 10 then 2 else if o.1 = 11 then 1 else 0
def mayO (o : Int × Int) : Bool := if o.1 = 1 then spanR o.2 else if o.1 = 2 then decide (0 ≤ o.2) && decide (o.2 < 64) else if o.1 = 3 then decide (0 ≤ o.2) && decide (o.2 < 8) else decide (0 < takesO o) && (o.2 == 0)
def twoT (k a b : Int) : Int :=
  if k = 4 then w32 (w32 a + w32 b) else if k = 5 then w32 (w32 a - w32 b) else if k = 6 then w32 (w32 a * w32 b) else if k = 7 then tr (a == b) else if k = 8 then tr (decide (a < b))
  else if k = 9 then tr (a != 0 && b != 0) else tr (a != 0 || b != 0)

theorem c_takes (o : Int × Int) : CSpec Tryz.prog 214 [dW o] (.int .i64 (takesO o)) := by
  refine CSpec.of_awp envOf_ok hmix Tryz.func214 rfl (fun args w => Tryz.call214 args w) (by simp [Tryz.f214]) ?_
  simp only [Tryz.f214]
  simp (maxSteps := 2000000) -implicitDefEqProofs only [zz, zE, evop, ev, ofVal, tget, tput, ok, V.isUndef, intBin, guardOf, initT, Ch.on, told, xport, hget, hput, V.cells, structAt, Blk.width, resOf, resV, resVs, ↓reduceIte, reduceCtorEq, Nat.reduceLT, Nat.reduceEqDiff, Nat.reduceAdd, nilTest, dW]
  by_cases h1 : o.1 ≥ 4
  · by_cases h2 : o.1 ≤ 10
    · simp (maxSteps := 2000000) -implicitDefEqProofs only [↓reduceIte, h1, h2]
      unfold takesO
      rw [if_pos ⟨h1, h2⟩]
    · by_cases h3 : o.1 = 11
      · have e : (o.1 == 11) = true := by simpa using h3
        simp (maxSteps := 2000000) -implicitDefEqProofs only [↓reduceIte, h1, h2, e]
        unfold takesO
        rw [if_neg (by omega), if_pos h3]
      · have e : (o.1 == 11) = false := by simpa using h3
        simp (maxSteps := 2000000) -implicitDefEqProofs only [zz, ↓reduceIte, h1, h2, e]
        unfold takesO
        rw [if_neg (by omega), if_neg h3]
  · have e : (o.1 == 11) = false := by simp; omega
    simp (maxSteps := 2000000) -implicitDefEqProofs only [zz, ↓reduceIte, h1, e]
    unfold takesO
    rw [if_neg (by omega), if_neg (by omega)]

theorem c_may (o : Int × Int) : CSpec Tryz.prog 230 [dW o] (.bool (mayO o)) := by
  refine CSpec.of_awp envOf_ok hmix Tryz.func230 rfl (fun args w => Tryz.call230 args w) (by simp [Tryz.f230]) ?_
  simp only [Tryz.f230]
  simp (maxSteps := 2000000) -implicitDefEqProofs only [zz, zE, evop, ev, ofVal, tget, tput, ok, V.isUndef, intBin, guardOf, initT, Ch.on, calleeOf, withArgs, told, xport, hget, hput, V.cells, structAt, Blk.width, resOf, resV, resVs, ↓reduceIte, reduceCtorEq, Nat.reduceLT, Nat.reduceEqDiff, Nat.reduceAdd, Nat.reduceLeDiff, nilTest, dW]
  unfold mayO
  by_cases h1 : o.1 = 1
  · have e : (o.1 == 1) = true := by simpa using h1
    simp (maxSteps := 2000000) -implicitDefEqProofs only [↓reduceIte, e]
    refine acall_flat' (c_span_Right o.2) rfl ?_
    try simp (maxSteps := 2000000) -implicitDefEqProofs only [zz, evop, ev, tget, tput, ok, V.isUndef, Ch.on, xport, resOf, resV, resVs, ↓reduceIte, Nat.reduceLT]
    rw [if_pos h1]
  have e1 : (o.1 == 1) = false := by simpa using h1
  by_cases h2 : o.1 = 2
  · have e : (o.1 == 2) = true := by simpa using h2
    by_cases g : o.2 ≥ 0
    · rw [if_neg h1, if_pos h2]
      simp (maxSteps := 2000000) -implicitDefEqProofs only [zz, ↓reduceIte, e1, e, g]
    · rw [if_neg h1, if_pos h2]
      simp (maxSteps := 2000000) -implicitDefEqProofs only [zz, ↓reduceIte, e1, e, g]
  have e2 : (o.1 == 2) = false := by simpa using h2
  by_cases h3 : o.1 = 3
  · have e : (o.1 == 3) = true := by simpa using h3
    by_cases g : o.2 ≥ 0
    · rw [if_neg h1, if_neg h2, if_pos h3]
      simp (maxSteps := 2000000) -implicitDefEqProofs only [zz, ↓reduceIte, e1, e2, e, g]
    · rw [if_neg h1, if_neg h2, if_pos h3]
      simp (maxSteps := 2000000) -implicitDefEqProofs only [zz, ↓reduceIte, e1, e2, e, g]
  have e3 : (o.1 == 3) = false := by simpa using h3
  simp (maxSteps := 2000000) -implicitDefEqProofs only [zz, ↓reduceIte, e1, e2, e3, h1, h2, h3]
  refine acall_flat' (c_takes o) rfl ?_
  try simp (maxSteps := 2000000) -implicitDefEqProofs only [zz, zE, evop, ev, ofVal, tget, tput, ok, V.isUndef, intBin, guardOf, Ch.on, xport, hget, structAt, Blk.width, resOf, resV, resVs, ↓reduceIte, reduceCtorEq, Nat.reduceLT, Nat.reduceEqDiff, Nat.reduceAdd, nilTest]
  by_cases g : takesO o > 0
  · have g' : 0 < takesO o := g
    simp (maxSteps := 2000000) -implicitDefEqProofs only [zz, ↓reduceIte, g]
  · have g' : ¬ 0 < takesO o := g
    simp (maxSteps := 2000000) -implicitDefEqProofs only [zz, ↓reduceIte, g]

theorem c_two (k a b : Int) : CSpec Tryz.prog 217 [.int .i64 k, .int .i64 a, .int .i64 b] (.int .i64 (twoT k a b)) := by
  refine CSpec.of_awp envOf_ok hmix Tryz.func217 rfl (fun args w => Tryz.call217 args w) (by simp [Tryz.f217]) ?_
  simp only [Tryz.f217]
  simp (maxSteps := 2000000) -implicitDefEqProofs only [zz, evop, ev, ofVal, tget, tput, ok, V.isUndef, intBin, guardOf, initT, Ch.on, calleeOf, withArgs, told, ↓reduceIte, reduceCtorEq, Nat.reduceLT, Nat.reduceEqDiff, Nat.reduceAdd, nilTest]
  unfold twoT
  by_cases h4 : k = 4
  · have e : (k == 4) = true := by simpa using h4
    simp (maxSteps := 2000000) -implicitDefEqProofs only [↓reduceIte, e]
    refine acall_flat' (c_Add a b) rfl ?_
    try simp (maxSteps := 2000000) -implicitDefEqProofs only [zz, evop, ev, tget, tput, ok, V.isUndef, Ch.on, xport, resOf, resV, resVs, ↓reduceIte, Nat.reduceLT]
    rw [if_pos h4]
  have e4 : (k == 4) = false := by simpa using h4
  by_cases h5 : k = 5
  · have e : (k == 5) = true := by simpa using h5
    simp (maxSteps := 2000000) -implicitDefEqProofs only [zz, ↓reduceIte, e, e4]
    refine acall_flat' (c_Sub a b) rfl ?_
    try simp (maxSteps := 2000000) -implicitDefEqProofs only [zz, evop, ev, tget, tput, ok, V.isUndef, Ch.on, xport, resOf, resV, resVs, ↓reduceIte, Nat.reduceLT]
    rw [if_neg h4, if_pos h5]
  have e5 : (k == 5) = false := by simpa using h5
  by_cases h6 : k = 6
  · have e : (k == 6) = true := by simpa using h6
    simp (maxSteps := 2000000) -implicitDefEqProofs only [zz, ↓reduceIte, e, e4, e5]
    refine acall_flat' (c_Mul a b) rfl ?_
    try simp (maxSteps := 2000000) -implicitDefEqProofs only [zz, evop, ev, tget, tput, ok, V.isUndef, Ch.on, xport, resOf, resV, resVs, ↓reduceIte, Nat.reduceLT]
    rw [if_neg h4, if_neg h5, if_pos h6]
  have e6 : (k == 6) = false := by simpa using h6
  by_cases h7 : k = 7
  · have e : (k == 7) = true := by simpa using h7
    simp (maxSteps := 2000000) -implicitDefEqProofs only [zz, ↓reduceIte, e, e4, e5, e6]
    refine acall_flat' (c_Truth _) rfl ?_
    try simp (maxSteps := 2000000) -implicitDefEqProofs only [zz, evop, ev, tget, tput, ok, V.isUndef, Ch.on, xport, resOf, resV, resVs, ↓reduceIte, Nat.reduceLT]
    rw [if_neg h4, if_neg h5, if_neg h6, if_pos h7]
  have e7 : (k == 7) = false := by simpa using h7
  by_cases h8 : k = 8
  · have e : (k == 8) = true := by simpa using h8
    simp (maxSteps := 2000000) -implicitDefEqProofs only [zz, ↓reduceIte, e, e4, e5, e6, e7]
    refine acall_flat' (c_Truth _) rfl ?_
    try simp (maxSteps := 2000000) -implicitDefEqProofs only [zz, evop, ev, tget, tput, ok, V.isUndef, Ch.on, xport, resOf, resV, resVs, ↓reduceIte, Nat.reduceLT]
    rw [if_neg h4, if_neg h5, if_neg h6, if_neg h7, if_pos h8]
  have e8 : (k == 8) = false := by simpa using h8
  rw [if_neg h4, if_neg h5, if_neg h6, if_neg h7, if_neg h8]
  by_cases h9 : k = 9
  · have e : (k == 9) = true := by simpa using h9
    rw [if_pos h9]
    cases ha : (a != 0)
    · simp (maxSteps := 2000000) -implicitDefEqProofs only [zz, ↓reduceIte, e, e4, e5, e6, e7, e8]
      refine acall_flat' (c_Truth _) rfl ?_
      try simp (maxSteps := 2000000) -implicitDefEqProofs only [zz, evop, ev, tget, tput, ok, V.isUndef, Ch.on, xport, resOf, resV, resVs, ↓reduceIte, Nat.reduceLT]
    · simp (maxSteps := 2000000) -implicitDefEqProofs only [zz, ↓reduceIte, e, e4, e5, e6, e7, e8]
      refine acall_flat' (c_Truth _) rfl ?_
      try simp (maxSteps := 2000000) -implicitDefEqProofs only [zz, evop, ev, tget, tput, ok, V.isUndef, Ch.on, xport, resOf, resV, resVs, ↓reduceIte, Nat.reduceLT]
  have e9 : (k == 9) = false := by simpa using h9
  rw [if_neg h9]
  cases ha : (a != 0)
  · simp (maxSteps := 2000000) -implicitDefEqProofs only [zz, ↓reduceIte, e4, e5, e6, e7, e8, e9, Bool.false_or]
    refine acall_flat' (c_Truth _) rfl ?_
    try simp (maxSteps := 2000000) -implicitDefEqProofs only [zz, evop, ev, tget, tput, ok, V.isUndef, Ch.on, xport, resOf, resV, resVs, ↓reduceIte, Nat.reduceLT]
  · simp (maxSteps := 2000000) -implicitDefEqProofs only [zz, ↓reduceIte, e4, e5, e6, e7, e8, e9, Bool.true_or]
    refine acall_flat' (c_Truth _) rfl ?_
    try simp (maxSteps := 2000000) -implicitDefEqProofs only [zz, evop, ev, tget, tput, ok, V.isUndef, Ch.on, xport, resOf, resV, resVs, ↓reduceIte, Nat.reduceLT]

end Go.Proofs.YtjhfpabldidlgaaGreat.AM

set_option linter.all false
namespace Go.Proofs.YtjhfpabldidlgaaGreat.AM
open Go Go.RowKit

theorem FSpec.cspec {P : Program} {f : Nat} {args : List D} {r : V} {H1 : Heap} {d : D} (h : FSpec P f args r H1) (hx : xport H1 40 r = some d) : CSpec P f args d := by
  refine ⟨h.1, fun S0 w cs hS0 hlen hrel => (h.2 S0 w cs hS0 hlen hrel).mono ?_⟩
  rintro e w' ⟨c, φ1, S1, rfl, hr, hH1, hk⟩
  refine ⟨c, fun B => (S0 B ∨ w.heap.size ≤ B) ∧ B < w'.heap.size, rfl, ?_, fun B hB => hB, hk⟩
  have hv1 : ∀ B, S1 B → S0 B ∨ w.heap.size ≤ B := fun B hB => by
    rcases hH1.vis B hB with h | h | h
    · exact .inl h
    · exact h.elim
    · exact .inr h
  have hv2 : ∀ i L, φ1 i = some L → S0 L.blk ∨ w.heap.size ≤ L.blk := fun i L hL => by
    rcases hH1.own i L hL with h | h
    · exact h.elim
    · exact .inr h
  exact xport_rel hH1 (fun B hB => ⟨hv1 B hB, hH1.low B hB⟩) 40 r c d (fun i _ L hL => ⟨hv2 i L hL, hH1.lt hL⟩) hr hx


end Go.Proofs.YtjhfpabldidlgaaGreat.AM

set_option linter.all false
namespace Go.Proofs.YtjhfpabldidlgaaGreat.AM
open Go Go.RowKit

section
variable {P : Program} {E : Env} {n m : Nat}

def Snd (P : Program) (E : Env) (n m : Nat) (c : Code) (T : Tmps) (H : Heap) (Q : Ex → Tmps → Heap → Prop) : Prop :=
  ∀ (C : Ctx) (φ : Nat → Option Loc) (S : Nat → Prop) (a : Act) (w : World), Stands C n T H φ S a w → c.wp P (PostQ C n m φ S H w Q) a w

theorem Snd.of_awp (hE : EOk P E) (hmix : P.follows .mixedOrders = true) {c : Code} {T : Tmps} {H : Heap} {Q : Ex → Tmps → Heap → Prop} (h : awp P E n m c T H Q) : Snd P E n m c T H Q :=
  fun C φ S a w hst => awp_sound hE hmix c hst h

theorem Snd.weak {c : Code} {T T' : Tmps} {H H' : Heap} {Q : Ex → Tmps → Heap → Prop} (hw : Weak m T H T' H') (h : Snd P E n m c T' H' Q) : Snd P E n m c T H Q := fun C φ S a w hst => by
  obtain ⟨φ', S', h1, h2, h3⟩ := hw C φ S w a hst.heap hst.tmps
  exact wp_mono (h C φ' S' a w ⟨h1, h2, hst.size, hst.defers⟩) (fun e a' w' hp => hp.from h3 .refl)

def cutK (P : Program) (E : Env) (n m : Nat) (y : Code) (Q : Ex → Tmps → Heap → Prop) : Ex → Tmps → Heap → Prop := fun e T H => match e with
  | .normal => Snd P E n m y T H Q
  | e => Q e T H
theorem cutK_normal {y : Code} {Q : Ex → Tmps → Heap → Prop} {T : Tmps} {H : Heap} : cutK P E n m y Q .normal T H = Snd P E n m y T H Q := rfl
theorem Snd.seq (hE : EOk P E) (hmix : P.follows .mixedOrders = true) {x y : Code} {T : Tmps} {H : Heap} {Q : Ex → Tmps → Heap → Prop} (h : awp P E n m x T H (cutK P E n m y Q)) : Snd P E n m (.seq x y) T H Q := fun C φ S a w hst => by
  refine wp_seq (wp_mono (awp_sound hE hmix x hst h) ?_)
  rintro e a1 w1 ⟨e', T', H', φ', S', hq, rfl, hst', hs', hk'⟩
  cases e' with
  | normal => exact wp_mono (hq C φ' S' a1 w1 hst') (fun e a2 w2 hp => hp.from hs' hk')
  | exit id => exact ⟨.exit id, T', H', φ', S', hq, rfl, hst', hs', hk'⟩
  | ret => exact ⟨.ret, T', H', φ', S', hq, rfl, hst', hs', hk'⟩

def hdN : Nat → Code → Code
  | k + 1, .seq x y => .seq x (hdN k y)
  | _, _ => .skip
def tlN : Nat → Code → Code
  | k + 1, .seq _ y => tlN k y
  | _, c => c

theorem Snd.upto (hE : EOk P E) (hmix : P.follows .mixedOrders = true) {Q : Ex → Tmps → Heap → Prop} : ∀ (k : Nat) (c : Code) {T : Tmps} {H : Heap}, awp P E n m (hdN k c) T H (cutK P E n m (tlN k c) Q) → Snd P E n m c T H Q
  | 0, c, T, H, h => h
  | k + 1, c, T, H, h => by
    cases c with
    | seq x y =>
      refine Snd.seq hE hmix (awp_mono x (fun e T' H' he => ?_) h)
      cases e with
      | normal => exact Snd.upto hE hmix k y he
      | exit i => exact he
      | ret => exact he
    | _ => exact h

theorem RSpec.of_snd {f : Nat} {fn : Func} {body : Code} {vs : List V} {H0 H1 : Heap} {r : V} (hE : EOk P E) (hmix : P.follows .mixedOrders = true) (hf : P.funcs[f]? = some fn) (hb : fn.body = some body) (hcall : Callable P f) (hn : vs.length ≤ fn.ntmps)
    (h : Snd P E fn.ntmps H0.length body (initV 0 vs) H0 (FinR E H0.length fn.results.toList r H1)) : RSpec P f vs H0 r H1 := by
  refine ⟨hcall, fun C φ S w cs hH hv => ?_⟩
  have hlen := hv.len
  have hsz : (cs.toArray ++ Array.replicate (fn.ntmps - cs.toArray.size) undef).size = fn.ntmps := by simp; omega
  have hst : Stands C fn.ntmps (initV 0 vs) H0 φ S { tmps := cs.toArray ++ Array.replicate (fn.ntmps - cs.toArray.size) undef, defers := [] } w := by
    refine ⟨hH, fun t => ?_, hsz, rfl⟩
    rw [initV_get]
    simp only [Nat.zero_le, if_true, Nat.sub_zero]
    by_cases ht : t < vs.length
    · have hc : t < cs.length := by omega
      rw [List.getElem?_eq_getElem ht]
      have : (cs.toArray ++ Array.replicate (fn.ntmps - cs.toArray.size) undef).getD t undef = cs[t] := by
        simp [Array.getElem?_append, hc]
      rw [this]
      exact hv.at_ t _ _ (List.getElem?_eq_getElem ht) (List.getElem?_eq_getElem hc)
    · rw [List.getElem?_eq_none (by omega)]
      exact .d _ _ (.undef _)
  refine calls_of_wp hf hb (wp_mono (h _ _ _ _ _ hst) ?_)
  rintro e a' w' ⟨e', T', H', φ', S', hq, rfl, hst', hs', hk'⟩
  have fin : (∃ v, resOf E T' H' fn.results.toList = some v ∧ Weak H0.length [(0, v)] H' [(0, r)] H1) → a'.defers = [] ∧ ∃ v, (results fn a'.tmps).run P w' = .ok v w' ∧
      ∃ c φ1 S1, Ending.returned v = .returned c ∧ RV φ1 S1 H1 w' r c ∧ HRel C φ1 S1 H1 w' ∧ Step φ S H0 w φ1 S1 H1 w' ∧ Kp C w w' := by
    rintro ⟨v, hv, hx⟩
    obtain ⟨c, hrun, hc⟩ := resOf_sound hE hst' hv
    obtain ⟨φ1, S1, g1, g2, g3⟩ := hx _ φ' S' w' { tmps := #[c], defers := [] } hst'.heap (fun t => by
      simp only [tget]
      split
      · rename_i e; subst e; exact hc
      · exact .d _ _ (.undef _))
    have hall := hs'.trans g3
    refine ⟨hst'.defers, c, hrun, c, φ1, S1, rfl, ?_, g1, ⟨hall.keepS, fun id hu => hall.keepH id (Classical.byContradiction fun hn => hu (hget_length H0 id (by omega))) hu⟩, hk'⟩
    have := g2 0
    simpa [tget] using this
  cases e' with
  | normal => exact fin hq
  | ret => exact fin hq
  | exit id => exact hq.elim
theorem NSpec.of_snd {f : Nat} {fn : Func} {body : Code} {vs : List V} {H0 : Heap} {Qf : V → Heap → Prop} (hE : EOk P E) (hmix : P.follows .mixedOrders = true) (hf : P.funcs[f]? = some fn) (hb : fn.body = some body) (hcall : Callable P f) (hn : vs.length ≤ fn.ntmps)
    (h : Snd P E fn.ntmps H0.length body (initV 0 vs) H0 (FinN E H0.length fn.results.toList Qf)) : NSpec P f vs H0 Qf := by
  refine ⟨hcall, fun C φ S w cs hH hv => ?_⟩
  have hlen := hv.len
  have hsz : (cs.toArray ++ Array.replicate (fn.ntmps - cs.toArray.size) undef).size = fn.ntmps := by simp; omega
  have hst : Stands C fn.ntmps (initV 0 vs) H0 φ S { tmps := cs.toArray ++ Array.replicate (fn.ntmps - cs.toArray.size) undef, defers := [] } w := by
    refine ⟨hH, fun t => ?_, hsz, rfl⟩
    rw [initV_get]
    simp only [Nat.zero_le, if_true, Nat.sub_zero]
    by_cases ht : t < vs.length
    · have hc : t < cs.length := by omega
      rw [List.getElem?_eq_getElem ht]
      have : (cs.toArray ++ Array.replicate (fn.ntmps - cs.toArray.size) undef).getD t undef = cs[t] := by
        simp [Array.getElem?_append, hc]
      rw [this]
      exact hv.at_ t _ _ (List.getElem?_eq_getElem ht) (List.getElem?_eq_getElem hc)
    · rw [List.getElem?_eq_none (by omega)]
      exact .d _ _ (.undef _)
  refine calls_of_wp hf hb (wp_mono (h _ _ _ _ _ hst) ?_)
  rintro e a' w' ⟨e', T', H', φ', S', hq, rfl, hst', hs', hk'⟩
  obtain ⟨r, H1, hQ, hq⟩ := hq
  have fin : (∃ v, resOf E T' H' fn.results.toList = some v ∧ Weak H0.length [(0, v)] H' [(0, r)] H1) → a'.defers = [] ∧ ∃ v, (results fn a'.tmps).run P w' = .ok v w' ∧
      ∃ r H1, Qf r H1 ∧ ∃ c φ1 S1, Ending.returned v = .returned c ∧ RV φ1 S1 H1 w' r c ∧ HRel C φ1 S1 H1 w' ∧ Step φ S H0 w φ1 S1 H1 w' ∧ Kp C w w' := by
    rintro ⟨v, hv, hx⟩
    obtain ⟨c, hrun, hc⟩ := resOf_sound hE hst' hv
    obtain ⟨φ1, S1, g1, g2, g3⟩ := hx _ φ' S' w' { tmps := #[c], defers := [] } hst'.heap (fun t => by
      simp only [tget]
      split
      · rename_i e; subst e; exact hc
      · exact .d _ _ (.undef _))
    have hall := hs'.trans g3
    refine ⟨hst'.defers, c, hrun, r, H1, hQ, c, φ1, S1, rfl, ?_, g1, ⟨hall.keepS, fun id hu => hall.keepH id (Classical.byContradiction fun hn => hu (hget_length H0 id (by omega))) hu⟩, hk'⟩
    have := g2 0
    simpa [tget] using this
  cases e' with
  | normal => exact fin hq
  | ret => exact fin hq
  | exit id => exact hq.elim
end

end Go.Proofs.YtjhfpabldidlgaaGreat.AM

set_option linter.all false
set_option maxRecDepth 100000
set_option maxHeartbeats 4000000
namespace Go.Proofs.YtjhfpabldidlgaaGreat.AM
open Go Go.RowKit

theorem c_IndexFunc_O (ns : List (Int × Int)) (f : Nat) (cap : List D) (p : Int × Int → Bool) (hl : ns.length ≤ 1000000) (hcap : cap.length ≤ 8) (hp : ∀ n ∈ ns, CSpec Tryz.prog f (dW n :: cap) (.bool (p n))) : CSpec Tryz.prog 239 [.vec (ns.map dW), .func (f, 0) cap] (.int .i64 (idxOf p ns)) := by
  refine CSpec.of_awp envOf_ok hmix Tryz.func239 rfl (fun args w => Tryz.call239 args w) (by simp [Tryz.f239]) ?_
  simp only [Tryz.f239]
  simp (maxSteps := 2000000) -implicitDefEqProofs only [zz, zE, evop, ev, ofVal, tget, tput, ok, V.isUndef, initT, Ch.on, sliceOf, lenOf, ↓reduceIte, reduceCtorEq, Nat.reduceLT, Int.reduceNeg]
  refine wloop_ind (σ := Nat) (fun i => ns.length - i) (fun i => [(8, .d (.int .i64 i)), (7, .d (.int .i64 ns.length)), (4, .d (.int .i64 0)), (0, .d (.vec (ns.map dW))), (1, .d (.func (f, 0) cap))]) (fun _ => []) (fun i => i ≤ ns.length ∧ ∀ j < i, ∀ x, ns[j]? = some x → p x = false) 0 ⟨Nat.zero_le _, fun j hj => by omega⟩ (Weak.sub (by simp [tget])) ?_
  intro i ⟨hi, hb⟩
  rcases Nat.lt_or_ge i ns.length with h | h
  · have hx : ns[i]? = some ns[i] := List.getElem?_eq_getElem h
    have h' : ((i : Int) < (ns.length : Int)) := by omega
    simp (maxSteps := 2000000) -implicitDefEqProofs only [zz, zE, evop, ev, tget, tput, ok, V.isUndef, intBin, Ch.on, calleeOf, withArgs, told, D.cells, loadD, ↓reduceIte, reduceCtorEq, Nat.reduceLT, Nat.reduceEqDiff, Nat.reduceAdd, Nat.reduceLeDiff, Int.reduceNeg, nilTest, dW, h', List.getElem?_map, hx, Option.map_some, Int.natCast_nonneg]
    refine acall_flat (ds := dW ns[i] :: cap) (by simp only [xports, xport, xports_ds cap 39 (by omega), dW]) (hp _ (List.getElem_mem h)) rfl ?_
    simp (maxSteps := 2000000) -implicitDefEqProofs only [zz, evop, ev, ofVal, tget, tput, ok, V.isUndef, intBin, Ch.on, told, xport, resOf, resV, resVs, ↓reduceIte, Nat.reduceLT, Nat.reduceEqDiff, Int.reduceNeg, nilTest]
    split
    · rename_i hpx
      simp [idxOf, findIdx_at h hb hpx]
    · rename_i hpx
      refine ⟨i + 1, ⟨h, fun j hj x hxj => ?_⟩, by omega, Weak.sub ?_⟩
      · rcases Nat.lt_or_ge j i with hji | hji
        · exact hb j hji x hxj
        · have : j = i := by omega
          subst this
          rw [hx] at hxj; cases hxj
          simpa using hpx
      · have hw : IntKind.i64.wrap ((i : Int) + 1) = (i : Int) + 1 := by rw [IntKind.wrap_i64]; omega
        simp [tget, hw]
  · have h' : ¬ ((i : Int) < (ns.length : Int)) := by omega
    simp (maxSteps := 2000000) -implicitDefEqProofs only [zz, evop, ev, ofVal, tget, tput, ok, V.isUndef, intBin, Ch.on, told, xport, resOf, resV, resVs, ↓reduceIte, Nat.reduceLT, Nat.reduceEqDiff, Int.reduceNeg, nilTest, h']
    have : ns.findIdx? p = none := by
      rw [List.findIdx?_eq_none_iff]
      intro x hx
      obtain ⟨j, hj, rfl⟩ := List.getElem_of_mem hx
      simpa using hb j (by omega) _ (List.getElem?_eq_getElem hj)
    simp [idxOf, this]

theorem c_ContainsFunc_O (ns : List (Int × Int)) (f : Nat) (cap : List D) (p : Int × Int → Bool) (hl : ns.length ≤ 1000000) (hcap : cap.length ≤ 8) (hp : ∀ n ∈ ns, CSpec Tryz.prog f (dW n :: cap) (.bool (p n))) : CSpec Tryz.prog 228 [.vec (ns.map dW), .func (f, 0) cap] (.bool (ns.any p)) := by
  refine CSpec.of_awp envOf_ok hmix Tryz.func228 rfl (fun args w => Tryz.call228 args w) (by simp [Tryz.f228]) ?_
  simp only [Tryz.f228]
  simp (maxSteps := 2000000) -implicitDefEqProofs only [zz, evop, ev, ofVal, tget, tput, ok, V.isUndef, initT, Ch.on, calleeOf, withArgs, ↓reduceIte, reduceCtorEq, Nat.reduceLT, Nat.reduceEqDiff]
  refine acall_flat' (c_IndexFunc_O ns f cap p hl hcap hp) rfl ?_
  try simp (maxSteps := 2000000) -implicitDefEqProofs only [zz, evop, ev, ofVal, tget, tput, ok, V.isUndef, intBin, Ch.on, xport, resOf, resV, resVs, ↓reduceIte, Nat.reduceLT, nilTest]
  rw [idxOf_nonneg]



theorem c_CheckO (o : Int × Int) : CSpec Tryz.prog 229 [dW o] (.bool (!mayO o)) := by
  refine CSpec.of_awp envOf_ok hmix Tryz.func229 rfl (fun args w => Tryz.call229 args w) (by simp [Tryz.f229]) ?_
  simp only [Tryz.f229]
  simp (maxSteps := 2000000) -implicitDefEqProofs only [zz, zE, evop, ev, ofVal, tget, tput, ok, V.isUndef, initT, Ch.on, calleeOf, withArgs, hget, hput, V.cells, ↓reduceIte, Nat.reduceLT, Nat.reduceEqDiff, Nat.reduceAdd, Nat.reduceLeDiff, dW]
  refine acall_flat' (c_may o) rfl ?_
  try simp (maxSteps := 2000000) -implicitDefEqProofs only [zz, evop, ev, tget, tput, ok, V.isUndef, Ch.on, xport, resOf, resV, resVs, ↓reduceIte, Nat.reduceLT]

def walkN : List (Int × Int) → Int → Option Int
  | [], n => some n
  | o :: t, n => if n < takesO o then none else walkN t (n + (1 - takesO o))
theorem takesO_rng (o : Int × Int) : 0 ≤ takesO o ∧ takesO o ≤ 2 := by
  unfold takesO; split
  · omega
  · split <;> omega
theorem walkN_snoc : ∀ (t : List (Int × Int)) (o : Int × Int) (n : Int), walkN (t ++ [o]) n = match walkN t n with
    | some m => if m < takesO o then none else some (m + (1 - takesO o))
    | none => none
  | [], o, n => by simp [walkN]
  | a :: t, o, n => by
    simp only [List.cons_append, walkN]
    split
    · rfl
    · exact walkN_snoc t o _
theorem walkN_rng : ∀ (t : List (Int × Int)) (n m : Int), walkN t n = some m → 0 ≤ n → 0 ≤ m ∧ m ≤ n + t.length
  | [], n, m, h, h0 => by simp [walkN] at h; subst h; simp; exact h0
  | o :: t, n, m, h, h0 => by
    simp only [walkN] at h
    have := takesO_rng o
    split at h
    · cases h
    · obtain ⟨h1, h2⟩ := walkN_rng t _ m h (by omega)
      simp only [List.length_cons]; omega

def mostN : List (Int × Int) → Int → Int → Int
  | [], _, x => x
  | o :: t, n, x => mostN t (n + (1 - takesO o)) (if n + (1 - takesO o) > x then n + (1 - takesO o) else x)
def walkR (t : List (Int × Int)) : Int × Int := match walkN t 0 with
  | some n => (n, mostN t 0 0)
  | none => (-1, 0)
theorem mostN_snoc : ∀ (t : List (Int × Int)) (o : Int × Int) (n x m : Int), walkN t n = some m → mostN (t ++ [o]) n x = (if m + (1 - takesO o) > mostN t n x then m + (1 - takesO o) else mostN t n x)
  | [], o, n, x, m, h => by simp [walkN] at h; subst h; simp [mostN]
  | a :: t, o, n, x, m, h => by
    simp only [walkN] at h
    split at h
    · cases h
    · simp only [List.cons_append, mostN]
      exact mostN_snoc t o _ _ m h
theorem mostN_rng : ∀ (t : List (Int × Int)) (n x m K : Int), walkN t n = some m → 0 ≤ n → 0 ≤ x → n ≤ K → x ≤ K → 0 ≤ mostN t n x ∧ mostN t n x ≤ K + t.length
  | [], n, x, m, K, h, h0, hx, h1, h2 => by simp [mostN]; omega
  | o :: t, n, x, m, K, h, h0, hx, h1, h2 => by
    simp only [walkN] at h
    have := takesO_rng o
    split at h
    · cases h
    · simp only [mostN, List.length_cons]
      have h3 := mostN_rng t (n + (1 - takesO o)) (if n + (1 - takesO o) > x then n + (1 - takesO o) else x) m (K + 1) h (by omega) (by split <;> omega) (by omega) (by split <;> omega)
      omega

theorem c_walk (t : List (Int × Int)) (hl : t.length ≤ 1000000) : CSpec Tryz.prog 231 [.vec (t.map dW)] (.tuple [.int .i64 (walkR t).1, .int .i64 (walkR t).2]) := by
  refine CSpec.of_awp envOf_ok hmix Tryz.func231 rfl (fun args w => Tryz.call231 args w) (by simp [Tryz.f231]) ?_
  simp only [Tryz.f231]
  simp (maxSteps := 2000000) -implicitDefEqProofs only [zz, zE, evop, ev, ofVal, tget, tput, ok, V.isUndef, initT, Ch.on, sliceOf, lenOf, ↓reduceIte, reduceCtorEq, Nat.reduceLT, Int.reduceNeg]
  refine wloop_ind (σ := Nat × Int × Int) (fun s => t.length - s.1) (fun s => [(10, .d (.int .i64 s.1)), (9, .d (.int .i64 t.length)), (8, .d (.vec (t.map dW))), (4, .d (.int .i64 s.2.1)), (5, .d (.int .i64 s.2.2))]) (fun _ => []) (fun s => s.1 ≤ t.length ∧ walkN (t.take s.1) 0 = some s.2.1 ∧ mostN (t.take s.1) 0 0 = s.2.2) (0, 0, 0) ⟨Nat.zero_le _, rfl, rfl⟩ (Weak.sub (by simp [tget])) ?_
  rintro ⟨i, n, x⟩ ⟨hi, hn, hx⟩
  simp only at hi hn hx
  have hr := walkN_rng _ _ _ hn (by omega)
  have hm := mostN_rng _ 0 0 _ 0 hn (by omega) (by omega) (by omega) (by omega)
  rw [hx] at hm
  simp only [List.length_take] at hr hm
  rcases Nat.lt_or_ge i t.length with h | h
  · have hxi : t[i]? = some t[i] := List.getElem?_eq_getElem h
    have h' : ((i : Int) < (t.length : Int)) := by omega
    have hw : IntKind.i64.wrap ((i : Int) + 1) = ((i + 1 : Nat) : Int) := by rw [wrap_in (by omega)]; omega
    have htk := takesO_rng t[i]
    have hT : t.take (i + 1) = t.take i ++ [t[i]] := by rw [List.take_add_one, hxi]; rfl
    have ws := walkN_snoc (t.take i) t[i] 0
    rw [← hT, hn] at ws
    have ms := mostN_snoc (t.take i) t[i] 0 0 n hn
    rw [← hT, hx] at ms
    have w1 : IntKind.i64.wrap (1 - takesO t[i]) = 1 - takesO t[i] := by rw [wrap_in (by omega)]
    have w2 : IntKind.i64.wrap (n + (1 - takesO t[i])) = n + (1 - takesO t[i]) := by rw [wrap_in (by omega)]
    simp (maxSteps := 2000000) -implicitDefEqProofs only [zz, zE, evop, ev, tget, tput, ok, V.isUndef, intBin, Ch.on, calleeOf, withArgs, told, hget, hput, V.cells, D.cells, V.one, loadD, splice, ↓reduceIte, Nat.reduceLT, Nat.reduceEqDiff, Nat.reduceAdd, Nat.reduceLeDiff, Int.reduceNeg, nilTest, dW, h', List.getElem?_map, hxi, Option.map_some, Int.natCast_nonneg]
    refine acall_flat' (c_takes t[i]) rfl ?_
    try simp (maxSteps := 2000000) -implicitDefEqProofs only [zz, zE, evop, ev, ofVal, tget, tput, ok, V.isUndef, intBin, Ch.on, calleeOf, withArgs, told, xport, xports, hget, resOf, resV, resVs, ↓reduceIte, Nat.reduceLT, Nat.reduceEqDiff, Nat.reduceAdd, Nat.reduceLeDiff, Int.reduceNeg, nilTest]
    by_cases hlt : n < takesO t[i]
    · simp (maxSteps := 2000000) -implicitDefEqProofs only [↓reduceIte, Int.reduceNeg, hlt]
      have : walkN t 0 = none := by
        have e : t = t.take (i + 1) ++ t.drop (i + 1) := by simp
        have key : ∀ (a b : List (Int × Int)) (k : Int), walkN a k = none → walkN (a ++ b) k = none := by
          intro a
          induction a with
          | nil => intro b k h; simp [walkN] at h
          | cons y a ih =>
            intro b k h
            simp only [List.cons_append, walkN] at h ⊢
            split
            · rfl
            · rename_i hh; rw [if_neg hh] at h; exact ih b _ h
        rw [e]
        exact key _ _ _ (by simpa [hlt] using ws)
      simp [walkR, this]
    · simp (maxSteps := 2000000) -implicitDefEqProofs only [zz, ↓reduceIte, hlt]
      refine acall_flat' (c_takes t[i]) rfl ?_
      try simp (maxSteps := 2000000) -implicitDefEqProofs only [zz, evop, ev, ofVal, tget, tput, ok, V.isUndef, intBin, Ch.on, ↓reduceIte, Nat.reduceLT, Nat.reduceEqDiff, nilTest]
      rw [w1, w2]
      simp only [if_neg hlt] at ws
      refine ⟨(i + 1, n + (1 - takesO t[i]), if n + (1 - takesO t[i]) > x then n + (1 - takesO t[i]) else x), ⟨by simp only; omega, ws, ms⟩, by simp only; omega, ?_⟩
      exact Weak.trims 0 rfl (by simp [tget, hw, V.lower]) (by simp)
  · have e : i = t.length := by omega
    subst e
    rw [List.take_length] at hn hx
    simp (maxSteps := 2000000) -implicitDefEqProofs only [zz, evop, ev, tget, tput, ok, V.isUndef, intBin, Ch.on, told, xport, xports, resOf, resV, resVs, ↓reduceIte, Nat.reduceLT, Nat.reduceEqDiff, Int.reduceNeg, nilTest, Int.lt_irrefl]
    simp [walkR, hn, hx]

def termC (t : List (Int × Int)) : Int := if t.length < 1 ∨ 12 < t.length ∨ t.any (fun o => !mayO o) = true then 1 else if (walkR t).1 = 1 then 0 else 2
theorem c_term_Check (t : List (Int × Int)) (hl : t.length ≤ 1000000) : CSpec Tryz.prog 209 [.vec (t.map dW)] (.int .i64 (termC t)) := by
  refine CSpec.of_awp envOf_ok hmix Tryz.func209 rfl (fun args w => Tryz.call209 args w) (by simp [Tryz.f209]) ?_
  simp only [Tryz.f209]
  simp (maxSteps := 2000000) -implicitDefEqProofs only [zz, zE, evop, ev, ofVal, tget, tput, ok, V.isUndef, intBin, guardOf, initT, Ch.on, calleeOf, withArgs, told, xport, sliceOf, lenOf, resOf, resV, resVs, ↓reduceIte, reduceCtorEq, Nat.reduceLT, Nat.reduceEqDiff, nilTest]
  by_cases h1 : ((t.length : Int) < 1)
  · have e : termC t = 1 := by unfold termC; rw [if_pos (.inl (by omega))]
    rw [e]
    simp (maxSteps := 2000000) -implicitDefEqProofs only [zz, ↓reduceIte, h1]
  by_cases h2 : ((t.length : Int) > 12)
  · have e : termC t = 1 := by unfold termC; rw [if_pos (.inr (.inl (by omega)))]
    rw [e]
    simp (maxSteps := 2000000) -implicitDefEqProofs only [zz, ↓reduceIte, h1, h2]
  simp (maxSteps := 2000000) -implicitDefEqProofs only [zz, ↓reduceIte, h1, h2]
  refine acall_flat (ds := [.vec (t.map dW), .func (229, 0) []]) (by first | rfl | (simp only [xports, xport]; rfl)) (c_ContainsFunc_O t 229 [] (fun o => !mayO o) hl (by simp) (fun o _ => c_CheckO o)) rfl ?_
  cases h3 : t.any (fun o => !mayO o) with
  | true =>
    have e : termC t = 1 := by unfold termC; rw [if_pos (.inr (.inr h3))]
    rw [e]
    simp (maxSteps := 2000000) -implicitDefEqProofs only [zz, evop, ev, ofVal, tget, tput, ok, V.isUndef, Ch.on, told, xport, resOf, resV, resVs, ↓reduceIte, Nat.reduceLT, Nat.reduceEqDiff]
  | false =>
    simp (maxSteps := 2000000) -implicitDefEqProofs only [zz, evop, ev, tget, tput, ok, V.isUndef, Ch.on, calleeOf, withArgs, told, ↓reduceIte, reduceCtorEq, Nat.reduceLT, Nat.reduceEqDiff]
    refine acall_flat' (c_walk t hl) rfl ?_
    try simp (maxSteps := 2000000) -implicitDefEqProofs only [zz, evop, ev, ofVal, tget, tput, ok, V.isUndef, intBin, Ch.on, told, xport, resOf, resV, resVs, ↓reduceIte, Nat.reduceLT, Nat.reduceEqDiff, nilTest]
    have e : termC t = if (walkR t).1 = 1 then 0 else 2 := by
      unfold termC
      rw [if_neg]
      rintro (h | h | h)
      · omega
      · omega
      · rw [h3] at h; cases h
    rw [e]
    by_cases h4 : (walkR t).1 = 1
    · have e4 : ((walkR t).1 != 1) = false := by simpa using h4
      rw [if_pos h4]
      simp (maxSteps := 2000000) -implicitDefEqProofs only [zz, ↓reduceIte, e4]
    · have e4 : ((walkR t).1 != 1) = true := by simpa using h4
      rw [if_neg h4]
      simp (maxSteps := 2000000) -implicitDefEqProofs only [↓reduceIte, e4]
end Go.Proofs.YtjhfpabldidlgaaGreat.AM

set_option linter.all false
set_option maxRecDepth 100000
set_option maxHeartbeats 8000000
namespace Go.Proofs.YtjhfpabldidlgaaGreat.AM
open Go Go.RowKit

def heapGet (h : List (Bool × Int)) (c : Int) : Int × Int := if heapR h = true then (if thereB h c = true then (((h[c.toNat]?).getD (false, 0)).2, 0) else (0, 3)) else (0, 1)
theorem thereB_get {h : List (Bool × Int)} {c : Int} (ht : thereB h c = true) : ∃ k : Nat, ∃ v : Int, c = k ∧ k < h.length ∧ h[k]? = some (true, v) := by
  simp only [thereB, Bool.and_eq_true, decide_eq_true_eq] at ht
  obtain ⟨⟨h1, h2⟩, h3⟩ := ht
  have hk : c.toNat < h.length := by omega
  rw [List.getElem?_eq_getElem hk] at h3
  refine ⟨c.toNat, h[c.toNat].2, by omega, hk, ?_⟩
  rw [List.getElem?_eq_getElem hk]
  simp only [Option.getD_some] at h3
  rw [← h3]

theorem c_heap_Get (h : List (Bool × Int)) (c : Int) (hl : h.length ≤ 1000000) : CSpec Tryz.prog 167 [.vec (h.map dC), .int .i64 c] (.tuple [.int .i64 (heapGet h c).1, .int .i64 (heapGet h c).2]) := by
  refine CSpec.of_awp envOf_ok hmix Tryz.func167 rfl (fun args w => Tryz.call167 args w) (by simp [Tryz.f167]) ?_
  simp only [Tryz.f167]
  simp (maxSteps := 2000000) -implicitDefEqProofs only [zz, evop, ev, ofVal, tget, tput, ok, V.isUndef, initT, Ch.on, calleeOf, withArgs, ↓reduceIte, reduceCtorEq, Nat.reduceLT]
  refine acall_flat' (c_heap_Right h) rfl ?_
  try simp (maxSteps := 2000000) -implicitDefEqProofs only [zz, evop, ev, ofVal, tget, tput, ok, V.isUndef, Ch.on, calleeOf, withArgs, told, xport, xports, resOf, resV, resVs, ↓reduceIte, reduceCtorEq, Nat.reduceLT, Nat.reduceEqDiff]
  cases hr : heapR h with
  | false =>
    simp (maxSteps := 2000000) -implicitDefEqProofs only [zz, ↓reduceIte]
    simp [heapGet, hr]
  | true =>
    simp (maxSteps := 2000000) -implicitDefEqProofs only [zz, ↓reduceIte]
    refine acall_flat' (c_there h c hl) rfl ?_
    try simp (maxSteps := 2000000) -implicitDefEqProofs only [zz, zE, evop, ev, ofVal, tget, tput, ok, V.isUndef, Ch.on, told, xport, xports, D.cells, resOf, resV, resVs, ↓reduceIte, reduceCtorEq, Nat.reduceLT, Nat.reduceEqDiff]
    cases ht : thereB h c with
    | false =>
      simp (maxSteps := 2000000) -implicitDefEqProofs only [zz, ↓reduceIte]
      simp [heapGet, hr, ht]
    | true =>
      obtain ⟨k, v, rfl, hk, hx⟩ := thereB_get ht
      simp (maxSteps := 2000000) -implicitDefEqProofs only [zz, zE, evop, ev, ofVal, tget, tput, ok, V.isUndef, Ch.on, xport, xports, D.cells, loadD, structAt, resOf, resV, resVs, ↓reduceIte, reduceCtorEq, Nat.reduceLT, Nat.reduceEqDiff, Nat.reduceAdd, dC, List.getElem?_map, hx, Option.map_some, Int.natCast_nonneg]
      simp [heapGet, hr, ht, hx]

theorem c_r02_Same (a b : List (Bool × Int)) (ha : a.length ≤ 1000000) (hb : b.length ≤ 1000000) : CSpec Tryz.prog 43 [.vec (a.map dC), .vec (b.map dC)] (.bool (decide (a = b))) := by
  refine CSpec.of_awp envOf_ok hmix Tryz.func43 rfl (fun args w => Tryz.call43 args w) (by simp [Tryz.f43]) ?_
  simp only [Tryz.f43]
  simp (maxSteps := 2000000) -implicitDefEqProofs only [zz, zE, evop, ev, ofVal, tget, tput, ok, V.isUndef, intBin, initT, Ch.on, told, xport, sliceOf, lenOf, resOf, resV, resVs, ↓reduceIte, reduceCtorEq, Nat.reduceLT, Nat.reduceEqDiff, nilTest]
  by_cases hlen : a.length = b.length
  case neg =>
    have e : ((a.length : Int) != (b.length : Int)) = true := by simp; omega
    have : a ≠ b := fun e => hlen (by rw [e])
    simp (maxSteps := 2000000) -implicitDefEqProofs only [↓reduceIte, e]
    simp [this]
  have e : ((a.length : Int) != (b.length : Int)) = false := by simp; omega
  simp (maxSteps := 2000000) -implicitDefEqProofs only [zz, ↓reduceIte, e]
  refine wloop_ind (σ := Nat) (fun i => a.length - i) (fun i => [(5, .d (.int .i64 i)), (0, .d (.vec (a.map dC))), (1, .d (.vec (b.map dC)))]) (fun _ => []) (fun i => i ≤ a.length ∧ ∀ j < i, a[j]? = b[j]?) 0 ⟨Nat.zero_le _, fun j hj => by omega⟩ (Weak.sub (by simp [tget])) ?_
  rintro i ⟨hi, hI⟩
  rcases Nat.lt_or_ge i a.length with hlt | hge
  · have hx : a[i]? = some a[i] := List.getElem?_eq_getElem hlt
    have hy : b[i]? = some b[i] := List.getElem?_eq_getElem (by omega)
    have h' : ((i : Int) < (a.length : Int)) := by omega
    have hw : IntKind.i64.wrap ((i : Int) + 1) = ((i + 1 : Nat) : Int) := by rw [wrap_in (by omega)]; omega
    simp (maxSteps := 2000000) -implicitDefEqProofs only [zz, zE, evop, ev, tget, tput, ok, V.isUndef, intBin, Ch.on, told, sliceOf, lenOf, ↓reduceIte, reduceCtorEq, Nat.reduceLT, Nat.reduceEqDiff, nilTest, h']
    refine wdraw_plan [⟨[], false, [18, 21, 22, 23, 24], [], false⟩, ⟨[], false, [17, 21, 22, 23, 24], [0], false⟩, ⟨[0, 1], false, [21, 22, 23, 24], [], false⟩, ⟨[0, 1, 2], false, [21, 22, 23, 24], [], false⟩, ⟨[], false, [17, 18, 19, 20, 22], [0, 1, 2, 3], false⟩, ⟨[], false, [17, 18, 19, 20, 21], [0, 1, 2, 3, 4], false⟩, ⟨[4, 5], false, [17, 18, 19, 20], [0, 1, 2, 3], false⟩, ⟨[4, 5, 6], false, [17, 18, 19, 20], [0, 1, 2, 3], false⟩, ⟨[0, 1, 2, 3, 4, 5, 6, 7], true, [], [], false⟩] (by decide) ?_
    simp (maxSteps := 2000000) -implicitDefEqProofs only [zz, zE, evop, ev, ofVal, tget, tput, ok, V.isUndef, intBin, Ch.on, told, xport, hput, V.cells, D.cells, V.isAgg, V.clo, clos, loadD, eqCells, D.scalarEq, Blk.width, resOf, resV, resVs, ↓reduceIte, reduceCtorEq, Nat.reduceLT, Nat.reduceEqDiff, Nat.reduceAdd, Nat.reduceLeDiff, nilTest, dC, List.getElem?_map, hx, hy, Option.map_some, Int.natCast_nonneg]
    split
    · rename_i hne
      have : a ≠ b := fun e => by subst e; simp at hne
      simp [this]
    · rename_i heq
      have heq' : a[i] = b[i] := by
        simp at heq
        exact Prod.ext heq.1 heq.2
      refine ⟨i + 1, ⟨hlt, fun j hj => ?_⟩, by omega, Weak.trims 0 rfl (by simp [tget, hw, V.lower]) (by simp)⟩
      by_cases e : j = i
      · subst e; rw [hx, hy, heq']
      · exact hI j (by omega)
  · have h' : ¬ ((i : Int) < (a.length : Int)) := by omega
    simp (maxSteps := 2000000) -implicitDefEqProofs only [zz, zE, evop, ev, ofVal, tget, tput, ok, V.isUndef, intBin, Ch.on, told, xport, sliceOf, lenOf, resOf, resV, resVs, ↓reduceIte, reduceCtorEq, Nat.reduceLT, Nat.reduceEqDiff, nilTest, h']
    have : a = b := List.ext_getElem? (fun j => by
      rcases Nat.lt_or_ge j a.length with h | h
      · exact hI j (by omega)
      · rw [List.getElem?_eq_none h, List.getElem?_eq_none (by omega)])
    simp [this]
end Go.Proofs.YtjhfpabldidlgaaGreat.AM

set_option linter.all false
set_option maxRecDepth 100000
set_option maxHeartbeats 8000000
namespace Go.Proofs.YtjhfpabldidlgaaGreat.AM
open Go Go.RowKit

def leafT (h : List (Bool × Int)) (regs : List Int) (o : Int × Int) : Int × Int :=
  if o.1 = 1 then (o.2, 0) else if o.1 = 2 then heapGet h o.2 else if (regs.length : Int) ≤ o.2 then (0, 3) else (w32 (regs.getD o.2.toNat 0), 0)
theorem c_leaf (h : List (Bool × Int)) (regs : List Int) (o : Int × Int) (hl : h.length ≤ 1000000) (h0 : o.1 ≠ 1 → 0 ≤ o.2) :
    CSpec Tryz.prog 215 [dW o, .vec (h.map dC), .vec (regs.map dI)] (.tuple [.int .i64 (leafT h regs o).1, .int .i64 (leafT h regs o).2]) := by
  refine CSpec.of_awp envOf_ok hmix Tryz.func215 rfl (fun args w => Tryz.call215 args w) (by simp [Tryz.f215]) ?_
  simp only [Tryz.f215]
  simp (maxSteps := 2000000) -implicitDefEqProofs only [zz, zE, evop, ev, ofVal, tget, tput, ok, V.isUndef, intBin, initT, Ch.on, calleeOf, withArgs, told, xport, xports, hget, hput, V.cells, D.cells, structAt, sliceOf, Blk.width, lenOf, resOf, resV, resVs, ↓reduceIte, reduceCtorEq, Nat.reduceLT, Nat.reduceEqDiff, Nat.reduceAdd, nilTest, dW]
  unfold leafT
  by_cases h1 : o.1 = 1
  · have e : (o.1 == 1) = true := by simpa using h1
    rw [if_pos h1]
    simp (maxSteps := 2000000) -implicitDefEqProofs only [↓reduceIte, e]
  have e1 : (o.1 == 1) = false := by simpa using h1
  rw [if_neg h1]
  by_cases h2 : o.1 = 2
  · have e : (o.1 == 2) = true := by simpa using h2
    rw [if_pos h2]
    simp (maxSteps := 2000000) -implicitDefEqProofs only [zz, ↓reduceIte, e1, e]
    refine acall_flat' (c_heap_Get h o.2 hl) rfl ?_
    try simp (maxSteps := 2000000) -implicitDefEqProofs only [zz, evop, ev, tget, tput, ok, V.isUndef, Ch.on, xport, xports, resOf, resV, resVs, ↓reduceIte, Nat.reduceLT, Nat.reduceEqDiff]
  have e2 : (o.1 == 2) = false := by simpa using h2
  rw [if_neg h2]
  by_cases h3 : o.2 ≥ (regs.length : Int)
  · rw [if_pos h3]
    simp (maxSteps := 2000000) -implicitDefEqProofs only [zz, ↓reduceIte, e1, e2, h3]
  · rw [if_neg h3]
    have hx : regs[o.2.toNat]? = some (regs.getD o.2.toNat 0) := by rw [List.getD_eq_getElem?_getD, List.getElem?_eq_getElem (show o.2.toNat < regs.length by have := h0 h1; omega)]; rfl
    simp (maxSteps := 2000000) -implicitDefEqProofs only [zz, zE, evop, ev, tget, tput, ok, Ch.on, calleeOf, withArgs, D.cells, loadD, ↓reduceIte, Nat.reduceLT, dI, e1, e2, h3, List.getElem?_map, hx, Option.map_some]
    refine ⟨h0 h1, ?_⟩
    refine acall_flat' (c_Wrap _) rfl ?_
    try simp (maxSteps := 2000000) -implicitDefEqProofs only [zz, evop, ev, ofVal, tget, tput, ok, V.isUndef, Ch.on, xport, xports, resOf, resV, resVs, ↓reduceIte, Nat.reduceLT, Nat.reduceEqDiff]

def opV (h : List (Bool × Int)) (regs : List Int) (o : Int × Int) (p : List Int) : Int × Int :=
  if takesO o = 0 then leafT h regs o else if takesO o = 1 then (tr (p.getD (p.length - 1) 0 == 0), 0) else (twoT o.1 (p.getD (p.length - 2) 0) (p.getD (p.length - 1) 0), 0)
def evalS (h : List (Bool × Int)) (regs : List Int) : List (Int × Int) → List Int → List Int × Int
  | [], p => (p, 0)
  | o :: t, p => if (opV h regs o p).2 = 0 then evalS h regs t (p.take (p.length - (takesO o).toNat) ++ [(opV h regs o p).1]) else ([], (opV h regs o p).2)
def evalT (h : List (Bool × Int)) (regs : List Int) (t : List (Int × Int)) : Int × Int :=
  if termC t = 0 then (if heapR h = true then (if (evalS h regs t []).2 = 0 then ((evalS h regs t []).1.getD 0 0, 0) else (0, (evalS h regs t []).2)) else (0, 1)) else (0, termC t)

theorem evalS_pos {h : List (Bool × Int)} {regs : List Int} {o : Int × Int} {t : List (Int × Int)} {p : List Int} (h0 : (opV h regs o p).2 = 0) : evalS h regs (o :: t) p = evalS h regs t (p.take (p.length - (takesO o).toNat) ++ [(opV h regs o p).1]) := by
  rw [evalS, if_pos h0]
theorem evalS_neg {h : List (Bool × Int)} {regs : List Int} {o : Int × Int} {t : List (Int × Int)} {p : List Int} (h0 : (opV h regs o p).2 ≠ 0) : evalS h regs (o :: t) p = ([], (opV h regs o p).2) := by
  rw [evalS, if_neg h0]
theorem evalS_snoc (h : List (Bool × Int)) (regs : List Int) : ∀ (t : List (Int × Int)) (o : Int × Int) (p : List Int), (evalS h regs t p).2 = 0 → evalS h regs (t ++ [o]) p = evalS h regs [o] (evalS h regs t p).1
  | [], o, p, _ => rfl
  | a :: t, o, p, he => by
    by_cases h0 : (opV h regs a p).2 = 0
    · rw [evalS_pos h0] at he ⊢
      rw [List.cons_append, evalS_pos h0]
      exact evalS_snoc h regs t o _ he
    · rw [evalS_neg h0] at he; exact absurd he h0
theorem evalS_fail (h : List (Bool × Int)) (regs : List Int) : ∀ (t r : List (Int × Int)) (p : List Int), (evalS h regs t p).2 ≠ 0 → evalS h regs (t ++ r) p = evalS h regs t p
  | [], r, p, he => by simp [evalS] at he
  | a :: t, r, p, he => by
    simp only [List.cons_append, evalS] at he ⊢
    split at he
    · rename_i h0
      rw [if_pos h0, if_pos h0]
      exact evalS_fail h regs t r _ he
    · rename_i h0
      rw [if_neg h0, if_neg h0]
theorem evalS_len (h : List (Bool × Int)) (regs : List Int) : ∀ (t : List (Int × Int)) (p : List Int) (m : Int), walkN t p.length = some m → (evalS h regs t p).2 = 0 → ((evalS h regs t p).1.length : Int) = m
  | [], p, m, hw, _ => by simp [walkN] at hw; simp [evalS, hw]
  | o :: t, p, m, hw, he => by
    simp only [walkN] at hw
    simp only [evalS] at he ⊢
    have := takesO_rng o
    split at hw
    · cases hw
    · split at he
      · rename_i h0
        rw [if_pos h0]
        refine evalS_len h regs t _ m ?_ he
        rw [← hw]; congr 1
        simp; omega
      · rename_i h0; exact absurd he h0
theorem walkN_app : ∀ (a b : List (Int × Int)) (n m : Int), walkN (a ++ b) n = some m → ∃ k, walkN a n = some k ∧ walkN b k = some m
  | [], b, n, m, h => ⟨n, rfl, h⟩
  | o :: a, b, n, m, h => by
    simp only [List.cons_append, walkN] at h ⊢
    split at h
    · cases h
    · rename_i hh
      rw [if_neg hh]
      exact walkN_app a b _ m h

theorem termC_0 {t : List (Int × Int)} (h : termC t = 0) : 1 ≤ t.length ∧ t.length ≤ 12 ∧ (∀ o ∈ t, mayO o = true) ∧ walkN t 0 = some 1 := by
  unfold termC at h
  split at h
  · cases h
  · rename_i h1
    simp only [not_or] at h1
    obtain ⟨g1, g2, g3⟩ := h1
    split at h
    · rename_i h2
      refine ⟨by omega, by omega, fun o ho => ?_, ?_⟩
      · rw [Bool.not_eq_true, List.any_eq_false] at g3
        have := g3 o ho
        simpa using this
      · unfold walkR at h2
        cases hw : walkN t 0 with
        | none => rw [hw] at h2; simp at h2
        | some n => rw [hw] at h2; simp at h2; rw [h2]
    · cases h
theorem mayO_leaf {o : Int × Int} (h : mayO o = true) (h0 : takesO o = 0) : o.1 ≠ 1 → 0 ≤ o.2 := by
  intro h1
  unfold mayO at h
  rw [if_neg h1] at h
  split at h
  · simp at h; exact h.1
  · split at h
    · simp at h; exact h.1
    · rw [h0] at h; simp at h

theorem c_Eval (h : List (Bool × Int)) (regs : List Int) (t : List (Int × Int)) (hl : h.length ≤ 1000000) (htl : t.length ≤ 1000000) :
    CSpec Tryz.prog 172 [.vec (t.map dW), .vec (h.map dC), .vec (regs.map dI)] (.tuple [.int .i64 (evalT h regs t).1, .int .i64 (evalT h regs t).2]) := by
  refine CSpec.of_awp envOf_ok hmix Tryz.func172 rfl (fun args w => Tryz.call172 args w) (by simp [Tryz.f172]) ?_
  simp only [Tryz.f172]
  simp (maxSteps := 2000000) -implicitDefEqProofs only [zz, evop, ev, ofVal, tget, tput, ok, V.isUndef, initT, Ch.on, calleeOf, withArgs, ↓reduceIte, reduceCtorEq, Nat.reduceLT, Nat.reduceAdd]
  refine acall_flat' (c_term_Check t htl) rfl ?_
  try simp (maxSteps := 2000000) -implicitDefEqProofs only [zz, evop, ev, ofVal, tget, tput, ok, V.isUndef, intBin, Ch.on, calleeOf, withArgs, told, xport, xports, resOf, resV, resVs, ↓reduceIte, reduceCtorEq, Nat.reduceLT, Nat.reduceEqDiff, nilTest]
  by_cases hc : termC t = 0
  case neg =>
    have e : (termC t != 0) = true := by simpa using hc
    simp (maxSteps := 2000000) -implicitDefEqProofs only [↓reduceIte, e]
    simp [evalT, hc]
  have e : (termC t != 0) = false := by simpa using hc
  simp (maxSteps := 2000000) -implicitDefEqProofs only [zz, ↓reduceIte, e]
  refine acall_flat' (c_heap_Right h) rfl ?_
  try simp (maxSteps := 2000000) -implicitDefEqProofs only [zz, zE, evop, ev, ofVal, tget, tput, ok, V.isUndef, Ch.on, told, xport, xports, sliceOf, lenOf, resOf, resV, resVs, ↓reduceIte, reduceCtorEq, Nat.reduceLT, Nat.reduceEqDiff]
  cases hr : heapR h with
  | false =>
    simp (maxSteps := 2000000) -implicitDefEqProofs only [zz, ↓reduceIte]
    simp [evalT, hc, hr]
  | true =>
  obtain ⟨t1, t2, t3, t4⟩ := termC_0 hc
  simp (maxSteps := 2000000) -implicitDefEqProofs only [zz, ↓reduceIte]
  refine wloop_ind (σ := Nat × List Int) (fun s => t.length - s.1) (fun s => [(25, .d (.int .i64 s.1)), (24, .d (.int .i64 t.length)), (23, .d (.vec (t.map dW))), (9, .own 0 0 s.2.length), (1, .d (.vec (h.map dC))), (2, .d (.vec (regs.map dI)))]) (fun s => [.dat false 1 (s.2.map dI)]) (fun s => s.1 ≤ t.length ∧ evalS h regs (t.take s.1) [] = (s.2, 0)) (0, []) ⟨Nat.zero_le _, rfl⟩ ?_ ?_
  · refine Weak.pick [7] (by simp) (by simp) rfl (fun q hq => ?_) (fun i hi => ?_)
    · simp only [List.mem_cons, List.not_mem_nil, or_false] at hq
      rcases hq with rfl | rfl | rfl | rfl | rfl | rfl <;> first | exact .same _ | exact .nils 0 1 rfl
    · obtain rfl : i = 0 := by simpa using hi
      exact .virt 1 rfl rfl
  rintro ⟨i, p⟩ ⟨hi, hp⟩
  simp only at hi hp
  have hsplit : t.take i ++ t.drop i = t := List.take_append_drop i t
  obtain ⟨m, hm1, hm2⟩ := walkN_app (t.take i) (t.drop i) 0 1 (by rw [hsplit]; exact t4)
  have hpl : (p.length : Int) = m := by
    have := evalS_len h regs (t.take i) [] m (by simpa using hm1) (by rw [hp])
    rw [hp] at this; exact this
  have hmr := walkN_rng _ _ _ hm1 (by omega)
  simp only [List.length_take] at hmr
  rcases Nat.lt_or_ge i t.length with hlt | hge
  · have hx : t[i]? = some t[i] := List.getElem?_eq_getElem hlt
    have h' : ((i : Int) < (t.length : Int)) := by omega
    have hw : IntKind.i64.wrap ((i : Int) + 1) = ((i + 1 : Nat) : Int) := by rw [wrap_in (by omega)]; omega
    have htk := takesO_rng t[i]
    have hT : t.take (i + 1) = t.take i ++ [t[i]] := by rw [List.take_add_one, hx]; rfl
    have hen : takesO t[i] ≤ m := by
      rw [List.drop_eq_getElem_cons hlt] at hm2
      simp only [walkN] at hm2
      split at hm2
      · cases hm2
      · omega
    have hsn := evalS_snoc h regs (t.take i) t[i] [] (by rw [hp])
    rw [← hT, hp] at hsn
    obtain ⟨n, hn⟩ : ∃ n : Nat, (n : Int) = (p.length : Int) - takesO t[i] := ⟨((p.length : Int) - takesO t[i]).toNat, by omega⟩
    have w1 : IntKind.i64.wrap ((p.length : Int) - takesO t[i]) = (n : Int) := by rw [wrap_in (by omega)]; omega
    have hmay := t3 t[i] (List.getElem_mem hlt)
    simp (maxSteps := 2000000) -implicitDefEqProofs only [zz, zE, evop, ev, tget, tput, ok, V.isUndef, intBin, Ch.on, calleeOf, withArgs, told, hget, hput, V.cells, D.cells, V.one, loadD, sliceOf, lenOf, splice, ↓reduceIte, Nat.reduceLT, Nat.reduceEqDiff, Nat.reduceAdd, Nat.reduceLeDiff, nilTest, dW, h', List.getElem?_map, hx, Option.map_some, Int.natCast_nonneg]
    refine acall_flat' (c_takes t[i]) rfl ?_
    try simp (maxSteps := 2000000) -implicitDefEqProofs only [zz, zE, evop, ev, ofVal, tget, tput, ok, V.isUndef, intBin, Ch.on, calleeOf, withArgs, hget, ↓reduceIte, Nat.reduceLT, Nat.reduceEqDiff, Nat.reduceAdd, Nat.reduceLeDiff, nilTest]
    rw [w1]
    refine acall_flat' (c_takes t[i]) rfl ?_
    try simp (maxSteps := 2000000) -implicitDefEqProofs only [zz, zE, evop, ev, ofVal, tget, tput, ok, V.isUndef, intBin, Ch.on, calleeOf, withArgs, told, hget, D.cells, loadD, ↓reduceIte, Nat.reduceLT, Nat.reduceEqDiff, Nat.reduceAdd, Nat.reduceLeDiff, nilTest]
    have hone : evalS h regs [t[i]] p = if (opV h regs t[i] p).2 = 0 then (p.take n ++ [(opV h regs t[i] p).1], 0) else ([], (opV h regs t[i] p).2) := by
      have : p.length - (takesO t[i]).toNat = n := by omega
      by_cases h0 : (opV h regs t[i] p).2 = 0
      · rw [evalS_pos h0, if_pos h0, this]; rfl
      · rw [evalS_neg h0, if_neg h0]
    rw [hone] at hsn
    have hnl : n ≤ p.length := by omega
    have fin : ∀ v, (opV h regs t[i] p) = (v, 0) → evalS h regs (t.take (i + 1)) [] = (p.take n ++ [v], 0) := fun v hv => by rw [hsn, hv]; rfl
    have emap : ∀ v, List.take n (List.map dI p) ++ [D.int .i64 v] = (p.take n ++ [v]).map dI := fun v => by simp [dI]
    have elen : ∀ v : Int, (p.take n ++ [v]).length = n + 1 := fun v => by simp; omega
    by_cases k0 : takesO t[i] = 0
    · have e0 : (takesO t[i] == 0) = true := by simpa using k0
      simp (maxSteps := 2000000) -implicitDefEqProofs only [↓reduceIte, e0]
      refine acall_flat' (c_leaf h regs t[i] hl (mayO_leaf hmay k0)) rfl ?_
      try simp (maxSteps := 2000000) -implicitDefEqProofs only [zz, zE, evop, ev, ofVal, tget, tput, ok, V.isUndef, intBin, Ch.on, told, xport, xports, hget, hput, V.cells, D.cells, V.one, V.toD, sliceOf, partsD, bound, elems, lenOf, resOf, resV, resVs, ↓reduceIte, Nat.reduceLT, Nat.reduceEqDiff, Nat.reduceAdd, Nat.reduceMul, Nat.reduceLeDiff, nilTest]
      have hop : opV h regs t[i] p = leafT h regs t[i] := by unfold opV; rw [if_pos k0]
      by_cases hz : (leafT h regs t[i]).2 = 0
      · have ez : ((leafT h regs t[i]).2 != 0) = false := by simpa using hz
        simp (maxSteps := 2000000) -implicitDefEqProofs only [zz, ↓reduceIte, ez, hw, Int.sub_zero]
        refine ⟨⟨by omega, by omega, by omega⟩, ⟨by omega, fun e he => by obtain rfl : e = .int .i64 (leafT h regs t[i]).1 := (by simpa using he); rfl⟩, (i + 1, p.take n ++ [(leafT h regs t[i]).1]), ⟨by simp only; omega, fin _ (by rw [hop]; exact Prod.ext rfl hz)⟩, by simp only; omega, ?_⟩
        simp only [emap, elen]
        refine Weak.pick [3] (by simp) (by simp) rfl (fun q hq => ?_) (fun i hi => ?_)
        · simp only [List.mem_cons, List.not_mem_nil, or_false] at hq
          rcases hq with rfl | rfl | rfl | rfl | rfl | rfl <;> exact .same _
        · obtain rfl : i = 0 := by simpa using hi
          exact .dat false 1 _ rfl rfl
      · have ez : ((leafT h regs t[i]).2 != 0) = true := by simpa using hz
        simp (maxSteps := 2000000) -implicitDefEqProofs only [↓reduceIte, ez]
        have : evalS h regs t [] = ([], (leafT h regs t[i]).2) := by
          rw [hop, if_neg hz] at hsn
          have hf := evalS_fail h regs (t.take (i + 1)) (t.drop (i + 1)) [] (by rw [hsn]; exact hz)
          rw [List.take_append_drop] at hf
          rw [hf, hsn]
        simp [evalT, hc, hr, this, hz]
    have e0 : (takesO t[i] == 0) = false := by simpa using k0
    by_cases k1 : takesO t[i] = 1
    · have e1 : (takesO t[i] == 1) = true := by simpa using k1
      have g1 : p[n]? = some (p.getD n 0) := by rw [List.getD_eq_getElem?_getD, List.getElem?_eq_getElem (show n < p.length by omega)]; rfl
      have hop : opV h regs t[i] p = (tr (p.getD n 0 == 0), 0) := by
        unfold opV; rw [if_neg k0, if_pos k1]
        have : p.length - 1 = n := by omega
        rw [this]
      simp (maxSteps := 2000000) -implicitDefEqProofs only [zz, evop, ev, ofVal, tget, tput, intBin, Ch.on, calleeOf, withArgs, ↓reduceIte, Nat.reduceLT, nilTest, dI, e0, e1, List.getElem?_map, g1, Option.map_some, Int.natCast_nonneg]
      refine ⟨by omega, ?_⟩
      refine acall_flat' (c_Truth _) rfl ?_
      try simp (maxSteps := 2000000) -implicitDefEqProofs only [zz, zE, evop, ev, ofVal, tget, tput, ok, V.isUndef, intBin, Ch.on, told, hget, hput, V.cells, D.cells, V.one, V.toD, sliceOf, partsD, bound, elems, lenOf, ↓reduceIte, Nat.reduceLT, Nat.reduceEqDiff, Nat.reduceAdd, Nat.reduceMul, Nat.reduceLeDiff, nilTest]
      simp (maxSteps := 2000000) -implicitDefEqProofs only [zz, hw, Int.sub_zero]
      refine ⟨⟨by omega, by omega⟩, ⟨by omega, fun e he => by obtain rfl : e = .int .i64 (tr (p.getD n 0 == 0)) := (by simpa using he); rfl⟩, (i + 1, p.take n ++ [tr (p.getD n 0 == 0)]), ⟨by simp only; omega, fin _ hop⟩, by simp only; omega, ?_⟩
      simp only [emap, elen]
      refine Weak.pick [3] (by simp) (by simp) rfl (fun q hq => ?_) (fun i hi => ?_)
      · simp only [List.mem_cons, List.not_mem_nil, or_false] at hq
        rcases hq with rfl | rfl | rfl | rfl | rfl | rfl <;> exact .same _
      · obtain rfl : i = 0 := by simpa using hi
        exact .dat false 1 _ rfl rfl
    have e1 : (takesO t[i] == 1) = false := by simpa using k1
    have k2 : takesO t[i] = 2 := by
      unfold takesO at k0 k1 ⊢
      split at k0 <;> rename_i hh
      · rw [if_pos hh]
      · rw [if_neg hh] at k1; split at k0 <;> rename_i h2
        · rw [if_pos h2] at k1; exact absurd rfl k1
        · exact absurd rfl k0
    have g1 : p[n]? = some (p.getD n 0) := by rw [List.getD_eq_getElem?_getD, List.getElem?_eq_getElem (show n < p.length by omega)]; rfl
    have g2 : p[n + 1]? = some (p.getD (n + 1) 0) := by rw [List.getD_eq_getElem?_getD, List.getElem?_eq_getElem (show n + 1 < p.length by omega)]; rfl
    have hop : opV h regs t[i] p = (twoT t[i].1 (p.getD n 0) (p.getD (n + 1) 0), 0) := by
      unfold opV; rw [if_neg k0, if_neg k1]
      have q1 : p.length - 2 = n := by omega
      have q2 : p.length - 1 = n + 1 := by omega
      rw [q1, q2]
    have w2 : IntKind.i64.wrap ((n : Int) + 1) = ((n + 1 : Nat) : Int) := by rw [wrap_in (by omega)]; omega
    simp (maxSteps := 2000000) -implicitDefEqProofs only [zz, ↓reduceIte, e0, e1]
    refine wdraw_plan [⟨[], false, [38, 39, 40, 41, 42, 43, 44, 45, 46], [], false⟩, ⟨[0], false, [38, 39, 40, 41, 42, 43, 44, 45, 46], [], false⟩, ⟨[], false, [36, 37, 39, 42, 43, 44, 45, 46], [0, 1], false⟩, ⟨[], false, [36, 37, 38, 42, 43, 44, 45, 46], [0, 1, 2], false⟩, ⟨[2, 3], false, [36, 37, 42, 43, 44, 45, 46], [0, 1], false⟩, ⟨[2, 3, 4], false, [36, 37, 42, 43, 44, 45, 46], [0, 1], false⟩, ⟨[], false, [36, 37, 38, 39, 40, 41, 43, 44], [0, 1, 2, 3, 4, 5], false⟩, ⟨[], false, [36, 37, 38, 39, 40, 41, 42], [0, 1, 2, 3, 4, 5, 6], false⟩, ⟨[7], false, [36, 37, 38, 39, 40, 41, 42], [0, 1, 2, 3, 4, 5, 6], false⟩, ⟨[6, 7, 8], false, [36, 37, 38, 39, 40, 41], [0, 1, 2, 3, 4, 5], false⟩, ⟨[6, 7, 8, 9], false, [36, 37, 38, 39, 40, 41], [0, 1, 2, 3, 4, 5], false⟩, ⟨[0, 1, 2, 3, 4, 5, 6, 7, 8, 9, 10], true, [], [], false⟩, ⟨[0, 1, 2, 3, 4, 5, 6, 7, 8, 9, 10, 11], true, [], [], false⟩] (by decide) ?_
    simp (maxSteps := 2000000) -implicitDefEqProofs only [zz, zE, evop, ev, ofVal, tget, tput, ok, V.isUndef, intBin, calleeOf, withArgs, hget, hput, V.cells, D.cells, V.isAgg, loadD, structAt, Blk.width, ↓reduceIte, reduceCtorEq, Nat.reduceLT, Nat.reduceEqDiff, Nat.reduceAdd, Nat.reduceLeDiff, dI, w2, List.getElem?_map, g1, g2, Option.map_some, Int.natCast_nonneg]
    refine ⟨by omega, by omega, ?_⟩
    refine acall_flat' (c_two t[i].1 (p.getD n 0) (p.getD (n + 1) 0)) rfl ?_
    try simp (maxSteps := 2000000) -implicitDefEqProofs only [zz, zE, evop, ev, ofVal, tget, tput, ok, V.isUndef, intBin, Ch.on, told, hget, hput, V.cells, D.cells, V.one, V.toD, sliceOf, partsD, bound, elems, lenOf, ↓reduceIte, Nat.reduceLT, Nat.reduceEqDiff, Nat.reduceAdd, Nat.reduceMul, Nat.reduceLeDiff, nilTest]
    simp (maxSteps := 2000000) -implicitDefEqProofs only [zz, hw, Int.sub_zero]
    refine ⟨⟨by omega, by omega⟩, ⟨by omega, fun e he => by obtain rfl : e = .int .i64 (twoT t[i].1 (p.getD n 0) (p.getD (n + 1) 0)) := (by simpa using he); rfl⟩, (i + 1, p.take n ++ [twoT t[i].1 (p.getD n 0) (p.getD (n + 1) 0)]), ⟨by simp only; omega, fin _ hop⟩, by simp only; omega, ?_⟩
    simp only [emap, elen]
    refine Weak.pick [14] (by simp) (by simp) rfl (fun q hq => ?_) (fun i hi => ?_)
    · simp only [List.mem_cons, List.not_mem_nil, or_false] at hq
      rcases hq with rfl | rfl | rfl | rfl | rfl | rfl <;> exact .same _
    · obtain rfl : i = 0 := by simpa using hi
      exact .dat false 1 _ rfl rfl
  · have e : i = t.length := by omega
    subst e
    rw [List.take_length] at hp
    have hn : ¬ ((t.length : Int) < (t.length : Int)) := by omega
    have hm : m = 1 := by
      rw [List.take_length] at hm1
      rw [hm1] at t4; exact Option.some.inj t4
    have h0 : p[0]? = some (p.getD 0 0) := by rw [List.getD_eq_getElem?_getD, List.getElem?_eq_getElem (show 0 < p.length by omega)]; rfl
    simp (maxSteps := 2000000) -implicitDefEqProofs only [zz, zE, evop, ev, ofVal, tget, tput, ok, V.isUndef, intBin, Ch.on, told, xport, xports, hget, D.cells, loadD, resOf, resV, resVs, ↓reduceIte, Nat.reduceLT, Nat.reduceEqDiff, nilTest, dI, hn, List.getElem?_map, h0, Option.map_some]
    exact ⟨⟨by omega, by omega⟩, by simp [evalT, hc, hr, hp]⟩
end Go.Proofs.YtjhfpabldidlgaaGreat.AM

set_option linter.all false
namespace Go.Proofs.YtjhfpabldidlgaaGreat.AM
open Go

inductive IsStart (t : List (Int × Int)) : Int → Int → Prop
  | neg (k : Int) : k < 0 → IsStart t k (-1)
  | leaf (k : Nat) (o : Int × Int) : t[k]? = some o → o.1 ≤ 3 → IsStart t k k
  | not (k : Nat) (o : Int × Int) (b : Int) : t[k]? = some o → ¬ o.1 ≤ 3 → IsStart t ((k : Int) - 1) b → (b < 0 ∨ o.1 = 11) → IsStart t k b
  | two (k : Nat) (o : Int × Int) (b s : Int) : t[k]? = some o → ¬ o.1 ≤ 3 → IsStart t ((k : Int) - 1) b → ¬ b < 0 → o.1 ≠ 11 → IsStart t (b - 1) s → IsStart t k s

theorem IsStart.rng {t : List (Int × Int)} {k s : Int} (h : IsStart t k s) : -1 ≤ s ∧ (s ≤ k ∨ s = -1) := by
  induction h with
  | neg k h => omega
  | leaf k o h1 h2 => omega
  | not k o b h1 h2 h3 h4 ih => omega
  | two k o b s h1 h2 h3 h4 h5 h6 ih1 ih2 => omega

def seg (t : List (Int × Int)) (s k : Nat) : List (Int × Int) := (t.drop s).take (k - s)
theorem seg_app {t : List (Int × Int)} {a b c : Nat} (h1 : a ≤ b) (h2 : b ≤ c) : seg t a c = seg t a b ++ seg t b c := by
  unfold seg
  have e : c - a = (b - a) + (c - b) := by omega
  rw [e, List.take_add, List.drop_drop]
  have : a + (b - a) = b := by omega
  rw [this]
theorem seg_one {t : List (Int × Int)} {k : Nat} {o : Int × Int} (h : t[k]? = some o) : seg t k (k + 1) = [o] := by
  unfold seg
  obtain ⟨hk, rfl⟩ := List.getElem?_eq_some_iff.1 h
  rw [List.drop_eq_getElem_cons hk, show k + 1 - k = 1 by omega]
  rfl
theorem walkN_app' : ∀ (a b : List (Int × Int)) (n k : Int), walkN a n = some k → walkN (a ++ b) n = walkN b k
  | [], b, n, k, h => by simp [walkN] at h; subst h; rfl
  | o :: a, b, n, k, h => by
    simp only [List.cons_append, walkN] at h ⊢
    split at h
    · cases h
    · rename_i hh; rw [if_neg hh]; exact walkN_app' a b _ k h

theorem takes_leaf {o : Int × Int} (h : o.1 ≤ 3) : takesO o = 0 := by unfold takesO; rw [if_neg (by omega), if_neg (by omega)]
theorem takes_not {o : Int × Int} (h : o.1 = 11) : takesO o = 1 := by unfold takesO; rw [if_neg (by omega), if_pos h]
theorem may_top {o : Int × Int} (h : mayO o = true) : 1 ≤ o.1 ∧ o.1 ≤ 11 := by
  unfold mayO at h
  split at h
  · omega
  · split at h
    · omega
    · split at h
      · omega
      · simp only [Bool.and_eq_true, decide_eq_true_eq] at h
        have := h.1
        unfold takesO at this
        split at this
        · omega
        · split at this <;> omega
theorem takes_two {o : Int × Int} (hm : mayO o = true) (h : ¬ o.1 ≤ 3) (h2 : o.1 ≠ 11) : takesO o = 2 := by
  have := may_top hm
  unfold takesO; rw [if_pos (by omega)]

theorem IsStart.walk {t : List (Int × Int)} (hm : ∀ o ∈ t, mayO o = true) {k s : Int} (h : IsStart t k s) : 0 ≤ s → ∀ d, 0 ≤ d → walkN (seg t s.toNat (k.toNat + 1)) d = some (d + 1) := by
  induction h with
  | neg k h => intro h0; omega
  | leaf k o h1 h2 =>
    intro _ d hd
    simp only [Int.toNat_natCast]
    rw [seg_one h1]
    simp only [walkN, takes_leaf h2]
    rw [if_neg (by omega)]; rfl
  | not k o b h1 h2 h3 h4 ih =>
    intro h0 d hd
    have hr := h3.rng
    have e := ih h0 d hd
    have hk : ((k : Int) - 1).toNat + 1 = k := by omega
    rw [hk] at e
    simp only [Int.toNat_natCast]
    rw [seg_app (b := k) (by omega) (by omega), walkN_app' _ _ _ _ e, seg_one h1]
    have ht : takesO o = 1 := takes_not (by omega)
    simp only [walkN, ht]
    rw [if_neg (by omega)]; congr 1; omega
  | two k o b s h1 h2 h3 h4 h5 h6 ih1 ih2 =>
    intro h0 d hd
    have hr := h3.rng
    have hr2 := h6.rng
    have e1 := ih2 h0 d hd
    have e2 := ih1 (by omega) (d + 1) (by omega)
    have hk1 : (b - 1).toNat + 1 = b.toNat := by omega
    have hk2 : ((k : Int) - 1).toNat + 1 = k := by omega
    rw [hk1] at e1
    rw [hk2] at e2
    simp only [Int.toNat_natCast]
    rw [seg_app (b := b.toNat) (by omega) (by omega), walkN_app' _ _ _ _ e1, seg_app (b := k) (by omega) (by omega), walkN_app' _ _ _ _ e2, seg_one h1]
    have ht : takesO o = 2 := takes_two (hm o (List.mem_of_getElem? h1)) h2 h5
    simp only [walkN, ht]
    rw [if_neg (by omega)]; congr 1; omega

inductive IsVal (t : List (Int × Int)) (h : List (Bool × Int)) (regs : List Int) : Int → Int → Bool → Prop
  | const (k : Nat) (o : Int × Int) : t[k]? = some o → o.1 = 1 → IsVal t h regs k o.2 true
  | cellNo (k : Nat) (o : Int × Int) : t[k]? = some o → o.1 = 2 → thereB h o.2 = false → IsVal t h regs k 0 false
  | cell (k : Nat) (o : Int × Int) : t[k]? = some o → o.1 = 2 → thereB h o.2 = true → IsVal t h regs k (((h[o.2.toNat]?).getD (false, 0)).2) true
  | regNo (k : Nat) (o : Int × Int) : t[k]? = some o → o.1 = 3 → (regs.length : Int) ≤ o.2 → IsVal t h regs k 0 false
  | reg (k : Nat) (o : Int × Int) : t[k]? = some o → o.1 = 3 → 0 ≤ o.2 → ¬ (regs.length : Int) ≤ o.2 → IsVal t h regs k (w32 (regs.getD o.2.toNat 0)) true
  | not (k : Nat) (o : Int × Int) (b : Int) (ok : Bool) : t[k]? = some o → o.1 = 11 → IsVal t h regs ((k : Int) - 1) b ok → IsVal t h regs k (tr (b == 0)) ok
  | two (k : Nat) (o : Int × Int) (b s a : Int) (ok is : Bool) : t[k]? = some o → ¬ o.1 ≤ 3 → o.1 ≠ 11 → IsVal t h regs ((k : Int) - 1) b ok → IsStart t ((k : Int) - 1) s → 0 ≤ s → IsVal t h regs (s - 1) a is → spanR a = true → spanR b = true →
      IsVal t h regs k (twoT o.1 a b) (ok && is)

end Go.Proofs.YtjhfpabldidlgaaGreat.AM

set_option linter.all false
set_option maxRecDepth 100000
set_option maxHeartbeats 8000000
namespace Go.Proofs.YtjhfpabldidlgaaGreat.AM
open Go Go.RowKit

theorem IsVal.rng {t : List (Int × Int)} {h : List (Bool × Int)} {regs : List Int} {k v : Int} {ok : Bool} (hv : IsVal t h regs k v ok) : 0 ≤ k ∧ k < t.length := by
  have key : ∀ (k : Nat) (o : Int × Int), t[k]? = some o → (0 : Int) ≤ k ∧ (k : Int) < t.length := fun k o h => by
    have := (List.getElem?_eq_some_iff.1 h).1; omega
  cases hv with
  | const k o h1 => exact key k o h1
  | cellNo k o h1 => exact key k o h1
  | cell k o h1 => exact key k o h1
  | regNo k o h1 => exact key k o h1
  | reg k o h1 => exact key k o h1
  | not k o b ok h1 => exact key k o h1
  | two k o b s a ok is h1 => exact key k o h1

end Go.Proofs.YtjhfpabldidlgaaGreat.AM

set_option linter.all false
namespace Go.Proofs.YtjhfpabldidlgaaGreat.AM
open Go Go.RowKit

section
variable {P : Program} {C : Ctx} {φ : Nat → Option Loc} {S : Nat → Prop} {H : Heap} {w w' : World}

theorem HRel.grown (hH : HRel C φ S H w) (hsz : w.heap.size ≤ w'.heap.size) (hold : ∀ B, B < w.heap.size → w'.heap[B]? = w.heap[B]?) : HRel C φ S H w' ∧ Step φ S H w φ S H w' := by
  have hs : Step φ S H w φ S H w' := ⟨fun B h hlt => ⟨h, hold B hlt⟩, (Step.refl (φ := φ) (S := S) (H := H) (w := w)).keepH⟩
  exact ⟨⟨Nat.le_trans hH.n0 hsz, hH.own, hH.vis, hH.inj, fun id => (hH.blk id).keep hs rfl (fun L hL => ⟨hold _ (hH.lt hL), Iff.rfl⟩), fun B hB => Nat.lt_of_lt_of_le (hH.low B hB) hsz⟩, hs⟩

theorem RSpec.of_sort {f : Nat} (hcall : Callable P f)
    (h0 : ∀ (p : Option Addr) (cap : Nat) (w : World), Calls P f #[.slice p 0 cap] w fun e w' => e = .returned (.tuple #[]) ∧ w' = w)
    (h1 : ∀ (blk off cap : Nat) (zs : List Int) (w : World), Sort.Holds (Value.int .i64) w blk off zs.toArray → blk < w.heap.size → zs.length < 4611686018427387904 →
      Calls P f #[.slice (some ⟨blk, off, none⟩) zs.length cap] w fun e w' => e = .returned (.tuple #[]) ∧ ∃ n os, w' = Sort.grow (Sort.putRow (Value.int .i64) (Sort.ahead w n) blk off (zs.mergeSort fun x y => decide (x ≤ y)).toArray) os)
    (zs : List Int) (hl : zs.length ≤ 1000000) : RSpec P f [.own 0 0 zs.length] [.dat false 1 (zs.map fun n => .int .i64 n)] (.tuple []) [.dat false 1 ((zs.mergeSort fun x y => decide (x ≤ y)).map fun n => .int .i64 n)] := by
  refine ⟨hcall, fun C φ S w cs hH hv => ?_⟩
  match cs, hv.len with
  | [c], _ =>
  have hc := hv.at_ 0 _ c rfl rfl
  cases hc with | own _ _ _ l cap A hub hh =>
  obtain ⟨r1, r0, r2, r3⟩ := hh false 1 _ rfl
  subst r0
  have ret : ∀ w1, RV φ S [.dat false 1 ((zs.mergeSort fun x y => decide (x ≤ y)).map fun n => .int .i64 n)] w1 (.tuple []) (.tuple #[]) := fun w1 => .tuple [] [] rfl (fun i v c h => by simp at h)
  by_cases hz : zs = []
  · subst hz
    refine (h0 A cap w).mono ?_
    rintro e w' ⟨rfl, rfl⟩
    exact ⟨_, φ, S, rfl, ret _, by simpa using hH, by simpa using Step.refl, .refl⟩
  · have hzl : 0 < zs.length := List.length_pos_iff.2 hz
    rcases r3 with r3 | ⟨L, hL, rfl, hfit⟩
    · omega
    have hb := hH.blk 0
    rcases hb with ⟨hn, _⟩ | ⟨L', cur, t, h1', hat, hsz1, hroom, hcells, hS⟩
    · simp at hn; exact absurd hn hz
    rw [hL] at h1'; cases h1'
    simp only [List.length_map, Nat.mul_one] at hroom
    have hcell : ∀ j, j < zs.length → cur[L.off + j]? = some (.int .i64 (zs.getD j 0)) := fun j hj => by
      obtain ⟨c, hc1, hc2⟩ := hcells j (.int .i64 zs[j]) 0 (.int .i64 zs[j]) (by simp [hj]) rfl
      rw [Nat.mul_one, Nat.add_zero] at hc1
      rw [hc1]
      cases hc2
      simp [List.getD_eq_getElem?_getD, hj]
    have hH0 : Sort.Holds (Value.int .i64) w L.blk (L.off + 0 * 1) zs.toArray := fun j hj => by
      have hj' : j < zs.length := by simpa using hj
      refine ⟨?_, by simp [World.frozen?, hat.heap]⟩
      simp only [World.cell?, hat.heap, Option.isSome_none, Bool.false_eq_true, if_false, Nat.zero_mul, Nat.add_zero]
      rw [hcell j hj']
      simp [getElem!_def, List.getD_eq_getElem?_getD, hj']
    refine (h1 L.blk (L.off + 0 * 1) cap zs w hH0 (hH.lt hL) (by omega)).mono ?_
    rintro e w' ⟨rfl, n, os, rfl⟩
    generalize hts : (zs.mergeSort fun x y => decide (x ≤ y)) = ts at ret ⊢
    have htl : ts.length = zs.length := by rw [← hts, List.length_mergeSort]
    have hw' : ∀ B, B < (w.setRow L.blk (Sort.putCells (Value.int .i64) L.off ts.toArray cur)).heap.size → (Sort.grow (Sort.putRow (Value.int .i64) (Sort.ahead w n) L.blk (L.off + 0 * 1) ts.toArray) os).heap[B]? = (w.setRow L.blk (Sort.putCells (Value.int .i64) L.off ts.toArray cur)).heap[B]? := fun B hB => by
      have hB' : B < w.heap.size := by simpa using hB
      rw [Sort.heap_grow_old _ _ (by simpa [Sort.putRow, Sort.mapBlock, Sort.ahead] using hB')]
      by_cases e : B = L.blk
      · subst e
        rw [setRow_heap w L.blk cur _ t (0, 0) hat.heap]
        simp [Sort.putRow, Sort.mapBlock, Sort.ahead, Array.getElem?_modify, hat.heap, Sort.onCells]
      · rw [setRow_other w L.blk B _ e]
        have : ¬ L.blk = B := fun e' => e e'.symm
        simp [Sort.putRow, Sort.mapBlock, Sort.ahead, Array.getElem?_modify, this]
    have hnS : ¬ S L.blk := fun h => by have := hS.1 h; cases this
    obtain ⟨q1, q2, q3⟩ := hH.write (cs' := Sort.putCells (Value.int .i64) L.off ts.toArray cur) hL hat hnS (by simp [Sort.putCells]) (.dat false 1 (ts.map fun n => .int .i64 n)) ⟨rfl, by simp [htl]⟩ (fun hst => by
      refine .inr ⟨L, _, t, hL, ⟨setRow_heap w L.blk cur _ t (0, 0) hat.heap, by rw [hat.size]; simp [Sort.putCells]⟩, fun e he => ?_, by simp [htl, Sort.putCells]; omega, fun i e k x he hx => ?_, by simpa using hnS⟩
      · obtain ⟨n, _, rfl⟩ := List.mem_map.1 he; rfl
      · have hi : i < ts.length := by have := (List.getElem?_eq_some_iff.1 he).1; simpa using this
        have he' : e = .int .i64 ts[i] := by
          rw [List.getElem?_map, List.getElem?_eq_getElem hi] at he
          simpa using he.symm
        subst he'
        cases k with
        | succ k => simp [D.cells] at hx
        | zero =>
          simp [D.cells] at hx
          subst hx
          refine ⟨.int .i64 ts[i], ?_, .int _ _⟩
          have hlt : L.off + i < cur.size := by omega
          simp only [Nat.mul_one, Nat.add_zero, Sort.putCells]
          rw [Array.getElem?_mapIdx, Array.getElem?_eq_getElem hlt]
          simp [hi])
    obtain ⟨p1, p2⟩ := q1.grown (w' := Sort.grow (Sort.putRow (Value.int .i64) (Sort.ahead w n) L.blk (L.off + 0 * 1) ts.toArray) os) (by simp [Sort.putRow, Sort.mapBlock, Sort.ahead]) hw'
    refine ⟨_, φ, S, rfl, ret _, by simpa [hput] using p1, ?_, ?_⟩
    · have := q2.trans p2 (by simp) (by simp [Sort.putRow, Sort.mapBlock, Sort.ahead])
      simpa [hput] using this
    · refine ⟨rfl, rfl, rfl, by simp [Sort.putRow, Sort.mapBlock, Sort.ahead], fun B hB hO => ?_⟩
      have hB' : B < w.heap.size := Nat.lt_of_lt_of_le hB hH.n0
      rw [hw' B (by simpa using hB')]
      exact q3.block B hB hO
end
end Go.Proofs.YtjhfpabldidlgaaGreat.AM

set_option linter.all false
namespace Go.Proofs.YtjhfpabldidlgaaGreat.AM
open Go Go.RowKit

section
variable {P : Program} {C : Ctx} {φ : Nat → Option Loc} {S : Nat → Prop} {H : Heap} {w w' : World}

theorem RSpec.of_compact {f : Nat} (hcall : Callable P f)
    (h0 : ∀ (p : Option Addr) (cap : Nat) (w : World), Calls P f #[.slice p 0 cap] w fun e w' => e = .returned (.slice p 0 cap) ∧ w' = w)
    (zs ts : List Int) (m : Nat) (hl : zs.length ≤ 1000000) (htl : ts.length = zs.length) (hm : m ≤ zs.length)
    (h1 : ∀ (blk off cap : Nat) (w : World), Sort.Holds (Value.int .i64) w blk off zs.toArray → zs.length ≤ cap →
      Calls P f #[.slice (some ⟨blk, off, none⟩) zs.length cap] w fun e w' => e = .returned (.slice (some ⟨blk, off, none⟩) m cap) ∧ ∃ n, w' = Sort.putRow (Value.int .i64) (Sort.ahead w n) blk off ts.toArray) :
    RSpec P f [.own 0 0 zs.length] [.dat false 1 (zs.map fun n => .int .i64 n)] (.own 0 0 m) [.dat false 1 (ts.map fun n => .int .i64 n)] := by
  refine ⟨hcall, fun C φ S w cs hH hv => ?_⟩
  match cs, hv.len with
  | [c], _ =>
  have hc := hv.at_ 0 _ c rfl rfl
  cases hc with | own _ _ _ l cap A hub hh =>
  obtain ⟨r1, r0, r2, r3⟩ := hh false 1 _ rfl
  subst r0
  by_cases hz : zs = []
  · subst hz
    have : ts = [] := List.eq_nil_of_length_eq_zero htl
    subst this
    obtain rfl : m = 0 := by simpa using hm
    refine (h0 A cap w).mono ?_
    rintro e w' ⟨rfl, rfl⟩
    exact ⟨_, φ, S, rfl, .own _ _ _ _ _ _ hub hh, hH, Step.refl, .refl⟩
  · have hzl : 0 < zs.length := List.length_pos_iff.2 hz
    rcases r3 with r3 | ⟨L, hL, rfl, hfit⟩
    · omega
    have hb := hH.blk 0
    rcases hb with ⟨hn, _⟩ | ⟨L', cur, t, h1', hat, hsz1, hroom, hcells, hS⟩
    · simp at hn; exact absurd hn hz
    rw [hL] at h1'; cases h1'
    simp only [List.length_map, Nat.mul_one] at hroom
    have hcell : ∀ j, j < zs.length → cur[L.off + j]? = some (.int .i64 (zs.getD j 0)) := fun j hj => by
      obtain ⟨c, hc1, hc2⟩ := hcells j (.int .i64 zs[j]) 0 (.int .i64 zs[j]) (by simp [hj]) rfl
      rw [Nat.mul_one, Nat.add_zero] at hc1
      rw [hc1]
      cases hc2
      simp [List.getD_eq_getElem?_getD, hj]
    have hH0 : Sort.Holds (Value.int .i64) w L.blk (L.off + 0 * 1) zs.toArray := fun j hj => by
      have hj' : j < zs.length := by simpa using hj
      refine ⟨?_, by simp [World.frozen?, hat.heap]⟩
      simp only [World.cell?, hat.heap, Option.isSome_none, Bool.false_eq_true, if_false, Nat.zero_mul, Nat.add_zero]
      rw [hcell j hj']
      simp [getElem!_def, List.getD_eq_getElem?_getD, hj']
    refine (h1 L.blk (L.off + 0 * 1) cap w hH0 r2).mono ?_
    rintro e w' ⟨rfl, n, rfl⟩
    have hw' : ∀ B, B < (w.setRow L.blk (Sort.putCells (Value.int .i64) L.off ts.toArray cur)).heap.size → (Sort.putRow (Value.int .i64) (Sort.ahead w n) L.blk (L.off + 0 * 1) ts.toArray).heap[B]? = (w.setRow L.blk (Sort.putCells (Value.int .i64) L.off ts.toArray cur)).heap[B]? := fun B hB => by
      have hB' : B < w.heap.size := by simpa using hB
      by_cases e : B = L.blk
      · subst e
        rw [setRow_heap w L.blk cur _ t (0, 0) hat.heap]
        simp [Sort.putRow, Sort.mapBlock, Sort.ahead, Array.getElem?_modify, hat.heap, Sort.onCells]
      · rw [setRow_other w L.blk B _ e]
        have : ¬ L.blk = B := fun e' => e e'.symm
        simp [Sort.putRow, Sort.mapBlock, Sort.ahead, Array.getElem?_modify, this]
    have hnS : ¬ S L.blk := fun h => by have := hS.1 h; cases this
    obtain ⟨q1, q2, q3⟩ := hH.write (cs' := Sort.putCells (Value.int .i64) L.off ts.toArray cur) hL hat hnS (by simp [Sort.putCells]) (.dat false 1 (ts.map fun n => .int .i64 n)) ⟨rfl, by simp [htl]⟩ (fun hst => by
      refine .inr ⟨L, _, t, hL, ⟨setRow_heap w L.blk cur _ t (0, 0) hat.heap, by rw [hat.size]; simp [Sort.putCells]⟩, fun e he => ?_, by simp [htl, Sort.putCells]; omega, fun i e k x he hx => ?_, by simpa using hnS⟩
      · obtain ⟨n, _, rfl⟩ := List.mem_map.1 he; rfl
      · have hi : i < ts.length := by have := (List.getElem?_eq_some_iff.1 he).1; simpa using this
        have he' : e = .int .i64 ts[i] := by
          rw [List.getElem?_map, List.getElem?_eq_getElem hi] at he
          simpa using he.symm
        subst he'
        cases k with
        | succ k => simp [D.cells] at hx
        | zero =>
          simp [D.cells] at hx
          subst hx
          refine ⟨.int .i64 ts[i], ?_, .int _ _⟩
          have hlt : L.off + i < cur.size := by omega
          simp only [Nat.mul_one, Nat.add_zero, Sort.putCells]
          rw [Array.getElem?_mapIdx, Array.getElem?_eq_getElem hlt]
          simp [hi])
    obtain ⟨p1, p2⟩ := q1.grown (w' := Sort.putRow (Value.int .i64) (Sort.ahead w n) L.blk (L.off + 0 * 1) ts.toArray) (by simp [Sort.putRow, Sort.mapBlock, Sort.ahead]) hw'
    refine ⟨_, φ, S, rfl, .own 0 0 m m cap _ (by simp [hget]) (fun fz sz els hg => ?_), by simpa [hput] using p1, ?_, ?_⟩
    · simp [hget] at hg
      obtain ⟨rfl, rfl, rfl⟩ := hg
      exact ⟨by simp [htl]; exact hm, rfl, by omega, .inr ⟨L, hL, rfl, hfit⟩⟩
    · have := q2.trans p2 (by simp) (by simp [Sort.putRow, Sort.mapBlock, Sort.ahead])
      simpa [hput] using this
    · refine ⟨rfl, rfl, rfl, by simp [Sort.putRow, Sort.mapBlock, Sort.ahead], fun B hB hO => ?_⟩
      have hB' : B < w.heap.size := Nat.lt_of_lt_of_le hB hH.n0
      rw [hw' B (by simpa using hB')]
      exact q3.block B hB hO
end
end Go.Proofs.YtjhfpabldidlgaaGreat.AM

set_option linter.all false
set_option maxRecDepth 100000
set_option maxHeartbeats 4000000
namespace Go.Proofs.YtjhfpabldidlgaaGreat.AM
open Go Go.RowKit

def cmpI (a b : Int) : Int := if a < b then -1 else if b < a then 1 else 0

theorem c_Compare (a b : Int) : CSpec Tryz.prog 132 [.int .i64 a, .int .i64 b] (.int .i64 (cmpI a b)) := by
  refine CSpec.of_awp envOf_ok hmix Tryz.func132 rfl (fun args w => Tryz.call132 args w) (by simp [Tryz.f132]) ?_
  simp only [Tryz.f132]
  simp (maxSteps := 2000000) -implicitDefEqProofs only [zz, evop, ev, ofVal, tget, tput, ok, V.isUndef, initT, Ch.on, calleeOf, withArgs, ↓reduceIte, reduceCtorEq, Nat.reduceLT, Int.reduceNeg]
  refine acall_flat' (c_isNaN _) rfl ?_
  try simp (maxSteps := 2000000) -implicitDefEqProofs only [zz, evop, ev, tget, tput, ok, V.isUndef, Ch.on, calleeOf, withArgs, ↓reduceIte, reduceCtorEq, Nat.reduceLT, Nat.reduceEqDiff, Int.reduceNeg]
  refine acall_flat' (c_isNaN _) rfl ?_
  try simp (maxSteps := 2000000) -implicitDefEqProofs only [zz, evop, ev, ofVal, tget, tput, ok, V.isUndef, intBin, Ch.on, told, xport, resOf, resV, resVs, ↓reduceIte, reduceCtorEq, Nat.reduceLT, Nat.reduceEqDiff, Int.reduceNeg, nilTest]
  unfold cmpI
  split
  · simp_all
  · split <;> simp_all


end Go.Proofs.YtjhfpabldidlgaaGreat.AM

set_option linter.all false
set_option maxRecDepth 100000
set_option maxHeartbeats 4000000
namespace Go.Proofs.YtjhfpabldidlgaaGreat.AM
open Go Go.RowKit

def logPut (l : Lg) (w : Int × Int) : Lg × Int := if logR l = true ∧ wrongW w = false then (if l.1.length = 24 then (l, 5) else ((l.1 ++ [w], l.2), 0)) else (l, 1)
def logMark (l : Lg) : Lg × Int := if logR l = true then (if l.2.length = 6 then (l, 5) else ((l.1, l.2 ++ [(l.1.length : Int)]), 0)) else (l, 1)
def logMarked (l : Lg) : Int := if logR l = true then (if l.2.length = 0 then 3 else 0) else 1
def logKeep (l : Lg) : Lg × Int := if logMarked l = 0 then ((l.1, l.2.dropLast), 0) else (l, logMarked l)
def logBack (l : Lg) : Lg × Int := if logMarked l = 0 then ((l.1.take ((l.2.getLast?).getD 0).toNat, l.2.dropLast), 0) else (l, logMarked l)
def dLE (r : Lg × Int) : D := .tuple [dLg r.1, .int .i64 r.2]

theorem logR_len {l : Lg} (h : logR l = true) : l.1.length ≤ 24 ∧ l.2.length ≤ 6 := by
  simp [logR] at h; omega

theorem c_W_Put (l : Lg) (w : Int × Int) (h1 : l.1.length ≤ 1000000) (h2 : l.2.length ≤ 1000000) : CSpec Tryz.prog 173 [dLg l, dW w] (dLE (logPut l w)) := by
  refine CSpec.of_awp envOf_ok hmix Tryz.func173 rfl (fun args w => Tryz.call173 args w) (by simp [Tryz.f173]) ?_
  simp only [Tryz.f173]
  simp (maxSteps := 2000000) -implicitDefEqProofs only [zz, zE, evop, ev, ofVal, tget, tput, ok, V.isUndef, initT, Ch.on, calleeOf, withArgs, hget, hput, V.cells, ↓reduceIte, reduceCtorEq, Nat.reduceLT, Nat.reduceEqDiff, Nat.reduceAdd, Nat.reduceLeDiff, dW, dLg]
  refine acall_flat' (c_W_Right l) rfl ?_
  try simp (maxSteps := 2000000) -implicitDefEqProofs only [zz, zE, evop, ev, ofVal, tget, tput, ok, V.isUndef, guardOf, Ch.on, calleeOf, withArgs, told, xport, xports, hget, hput, V.cells, V.one, splice, resOf, resV, resVs, ↓reduceIte, Nat.reduceLT, Nat.reduceEqDiff, Nat.reduceAdd, Nat.reduceLeDiff]
  split
  · rename_i hr
    simp only [Bool.not_eq_eq_eq_not, Bool.not_false] at hr
    refine acall_flat' (c_wrong w) rfl ?_
    try simp (maxSteps := 2000000) -implicitDefEqProofs only [zz, zE, evop, ev, ofVal, tget, tput, ok, V.isUndef, intBin, Ch.on, calleeOf, withArgs, told, xport, xports, hget, hput, V.cells, V.one, structAt, sliceOf, Blk.width, lenOf, splice, resOf, resV, resVs, ↓reduceIte, reduceCtorEq, Nat.reduceLT, Nat.reduceEqDiff, Nat.reduceAdd, Nat.reduceLeDiff, nilTest]
    split
    · rename_i hw
      have : logPut l w = (l, 1) := by simp [logPut, wrongW, hw]
      simp [this, dLE, dLg]
    · rename_i hw
      split
      · rename_i hl
        have : logPut l w = (l, 5) := by simp [logPut, wrongW, hr, hw] at hl ⊢; omega
        simp [this, dLE, dLg]
      · rename_i hl
        refine acall_own' (o_own l h1 h2) ?_
        try simp (maxSteps := 2000000) -implicitDefEqProofs only [zz, zE, evop, ev, ofVal, tget, tput, ok, V.isUndef, Ch.on, xport, xports, tids, tidss, hget, hput, freeze, V.cells, D.cells, V.one, V.clo, clos, V.toD, structAt, sliceOf, partsD, Blk.width, elems, splice, resOf, resV, resVs, ↓reduceIte, reduceCtorEq, Nat.reduceLT, Nat.reduceEqDiff, Nat.reduceAdd, Nat.reduceMul, Nat.reduceLeDiff, shiftH, Blk.ren, V.ren, renL, rLg, hLg]
        have hl' := logR_len hr
        have e : logPut l w = ((l.1 ++ [w], l.2), 0) := by
          have : wrongW w = false := by simpa [wrongW] using hw
          simp [logPut, hr, this] at hl ⊢; omega
        refine ⟨⟨by omega, fun e he => ?_⟩, ?_⟩
        · obtain rfl : e = _ := by simpa using he
          rfl
        · rw [e]
          have q1 : List.take l.1.length (l.1.map dW) = l.1.map dW := List.take_of_length_le (by simp)
          have q2 : List.take l.2.length (l.2.map dI) = l.2.map dI := List.take_of_length_le (by simp)
          rw [q1, q2, List.take_of_length_le (by simp)]
          simp [dLE, dLg, dW]
  · rename_i hr
    have : logPut l w = (l, 1) := by simp [logPut] at hr ⊢; simp [hr]
    simp [this, dLE, dLg]

theorem c_W_Mark (l : Lg) (h1 : l.1.length ≤ 1000000) (h2 : l.2.length ≤ 1000000) : CSpec Tryz.prog 175 [dLg l] (dLE (logMark l)) := by
  refine CSpec.of_awp envOf_ok hmix Tryz.func175 rfl (fun args w => Tryz.call175 args w) (by simp [Tryz.f175]) ?_
  simp only [Tryz.f175]
  simp (maxSteps := 2000000) -implicitDefEqProofs only [zz, zE, evop, ev, ofVal, tget, tput, ok, V.isUndef, initT, Ch.on, calleeOf, withArgs, hget, hput, V.cells, ↓reduceIte, Nat.reduceLT, Nat.reduceEqDiff, Nat.reduceAdd, Nat.reduceLeDiff, dLg]
  refine acall_flat' (c_W_Right l) rfl ?_
  try simp (maxSteps := 2000000) -implicitDefEqProofs only [zz, zE, evop, ev, ofVal, tget, tput, ok, V.isUndef, intBin, Ch.on, calleeOf, withArgs, told, xport, xports, hget, hput, V.cells, V.one, structAt, sliceOf, Blk.width, lenOf, splice, resOf, resV, resVs, ↓reduceIte, reduceCtorEq, Nat.reduceLT, Nat.reduceEqDiff, Nat.reduceAdd, Nat.reduceLeDiff, nilTest]
  split
  · rename_i hr
    have : logMark l = (l, 1) := by simp [logMark] at hr ⊢; simp [hr]
    simp [this, dLE, dLg]
  · rename_i hr
    have hr : logR l = true := by simpa using hr
    have hl' := logR_len hr
    split
    · rename_i hl
      have : logMark l = (l, 5) := by simp [logMark, hr] at hl ⊢; omega
      simp [this, dLE, dLg]
    · rename_i hl
      refine acall_own' (o_own l h1 h2) ?_
      try simp (maxSteps := 2000000) -implicitDefEqProofs only [zz, zE, evop, ev, ofVal, tget, tput, ok, V.isUndef, Ch.on, xport, xports, tids, tidss, hget, hput, freeze, V.cells, D.cells, V.one, V.toD, structAt, sliceOf, partsD, Blk.width, elems, lenOf, splice, resOf, resV, resVs, ↓reduceIte, reduceCtorEq, Nat.reduceLT, Nat.reduceEqDiff, Nat.reduceAdd, Nat.reduceMul, Nat.reduceLeDiff, shiftH, Blk.ren, V.ren, renL, rLg, hLg]
      have e : logMark l = ((l.1, l.2 ++ [(l.1.length : Int)]), 0) := by
        simp [logMark, hr] at hl ⊢; omega
      refine ⟨⟨by omega, fun e he => ?_⟩, ?_⟩
      · obtain rfl : e = _ := by simpa using he
        rfl
      · rw [e]
        have q1 : List.take l.1.length (l.1.map dW) = l.1.map dW := List.take_of_length_le (by simp)
        have q2 : List.take l.2.length (l.2.map dI) = l.2.map dI := List.take_of_length_le (by simp)
        rw [q1, q2, List.take_of_length_le (by simp)]
        simp [dLE, dLg, dI]

theorem c_W_marked (l : Lg) : CSpec Tryz.prog 163 [dLg l] (.int .i64 (logMarked l)) := by
  refine CSpec.of_awp envOf_ok hmix Tryz.func163 rfl (fun args w => Tryz.call163 args w) (by simp [Tryz.f163]) ?_
  simp only [Tryz.f163]
  simp (maxSteps := 2000000) -implicitDefEqProofs only [zz, zE, evop, ev, ofVal, tget, tput, ok, V.isUndef, initT, Ch.on, calleeOf, withArgs, hget, hput, V.cells, ↓reduceIte, Nat.reduceLT, Nat.reduceEqDiff, Nat.reduceAdd, Nat.reduceLeDiff, dLg]
  refine acall_flat' (c_W_Right l) rfl ?_
  try simp (maxSteps := 2000000) -implicitDefEqProofs only [zz, zE, evop, ev, ofVal, tget, tput, ok, V.isUndef, intBin, Ch.on, told, xport, hget, structAt, sliceOf, Blk.width, lenOf, resOf, resV, resVs, ↓reduceIte, reduceCtorEq, Nat.reduceLT, Nat.reduceEqDiff, Nat.reduceAdd, nilTest]
  unfold logMarked
  split
  · rename_i hr
    simp at hr; simp [hr]
  · rename_i hr
    simp at hr
    split
    · rename_i hl
      simp at hl
      simp [hr]; omega
    · rename_i hl
      simp at hl
      simp [hr]; omega

theorem logMarked_0 {l : Lg} (h : logMarked l = 0) : logR l = true ∧ l.2.length ≠ 0 := by
  unfold logMarked at h
  split at h
  · rename_i hr
    split at h
    · cases h
    · exact ⟨hr, by assumption⟩
  · cases h

theorem c_W_Keep (l : Lg) (h1 : l.1.length ≤ 1000000) (h2 : l.2.length ≤ 1000000) : CSpec Tryz.prog 105 [dLg l] (dLE (logKeep l)) := by
  refine CSpec.of_awp envOf_ok hmix Tryz.func105 rfl (fun args w => Tryz.call105 args w) (by simp [Tryz.f105]) ?_
  simp only [Tryz.f105]
  simp (maxSteps := 2000000) -implicitDefEqProofs only [zz, zE, evop, ev, ofVal, tget, tput, ok, V.isUndef, initT, Ch.on, calleeOf, withArgs, hget, hput, V.cells, ↓reduceIte, Nat.reduceLT, Nat.reduceEqDiff, Nat.reduceAdd, Nat.reduceLeDiff, dLg]
  refine acall_flat' (c_W_marked l) rfl ?_
  try simp (maxSteps := 2000000) -implicitDefEqProofs only [zz, zE, evop, ev, ofVal, tget, tput, ok, V.isUndef, intBin, Ch.on, calleeOf, withArgs, told, xport, xports, hget, hput, V.cells, V.one, splice, resOf, resV, resVs, ↓reduceIte, Nat.reduceLT, Nat.reduceEqDiff, Nat.reduceAdd, Nat.reduceLeDiff, nilTest]
  split
  · rename_i hm
    have : logKeep l = (l, logMarked l) := by simp [logKeep] at hm ⊢; simp [hm]
    simp [this, dLE, dLg]
  · rename_i hm
    have hm' : logMarked l = 0 := by simpa using hm
    obtain ⟨hr, hne⟩ := logMarked_0 hm'
    have hl' := logR_len hr
    refine acall_own' (o_own l h1 h2) ?_
    try simp (maxSteps := 2000000) -implicitDefEqProofs only [zz, zE, evop, ev, ofVal, tget, tput, ok, V.isUndef, intBin, Ch.on, xport, xports, tids, tidss, hget, hput, freeze, V.cells, V.one, structAt, sliceOf, bound, Blk.width, lenOf, splice, resOf, resV, resVs, ↓reduceIte, reduceCtorEq, Nat.reduceLT, Nat.reduceEqDiff, Nat.reduceAdd, Nat.reduceLeDiff, nilTest, shiftH, Blk.ren, V.ren, renL, rLg, hLg]
    have hw : IntKind.i64.wrap ((l.2.length : Int) - 1) = ((l.2.length - 1 : Nat) : Int) := by rw [wrap_in (by omega)]; omega
    have e : logKeep l = ((l.1, l.2.dropLast), 0) := by simp [logKeep, hm']
    rw [hw, e]
    refine ⟨⟨by omega, by omega, by omega⟩, ?_⟩
    have q1 : List.take l.1.length (l.1.map dW) = l.1.map dW := List.take_of_length_le (by simp)
    have q2 : (((l.2.length - 1 : Nat) : Int) - 0).toNat = l.2.length - 1 := by omega
    rw [q1, q2]
    simp [dLE, dLg, List.dropLast_eq_take]

theorem marks_last {l : Lg} (hr : logR l = true) (hne : l.2.length ≠ 0) : ∃ k : Nat, l.2[l.2.length - 1]? = some (k : Int) ∧ k ≤ l.1.length ∧ l.2.getLast? = some (k : Int) := by
  have hx : l.2[l.2.length - 1]? = some l.2[l.2.length - 1] := List.getElem?_eq_getElem (by omega)
  have hoff : offI l.1.length l.2[l.2.length - 1] = false := by
    simp only [logR, Bool.and_eq_true, Bool.not_eq_true', List.any_eq_false] at hr
    simpa using hr.1.2 _ (List.getElem_mem (by omega : l.2.length - 1 < l.2.length))
  simp [offI] at hoff
  refine ⟨l.2[l.2.length - 1].toNat, ?_, by omega, ?_⟩
  · rw [hx]; congr 1; omega
  · rw [List.getLast?_eq_getElem?, hx]; congr 1; omega

theorem c_W_Back (l : Lg) (h1 : l.1.length ≤ 1000000) (h2 : l.2.length ≤ 1000000) : CSpec Tryz.prog 174 [dLg l] (dLE (logBack l)) := by
  have hK := c_W_Keep l h1 h2
  by_cases hm : logMarked l = 0
  · obtain ⟨hr, hne⟩ := logMarked_0 hm
    have hl' := logR_len hr
    obtain ⟨k, k1, k2, k3⟩ := marks_last hr hne
    rw [show logKeep l = ((l.1, l.2.dropLast), 0) by simp [logKeep, hm]] at hK
    have hw : IntKind.i64.wrap ((l.2.length : Int) - 1) = ((l.2.length - 1 : Nat) : Int) := by rw [wrap_in (by omega)]; omega
    simp only [dLE, dLg] at hK
    refine CSpec.of_awp envOf_ok hmix Tryz.func174 rfl (fun args w => Tryz.call174 args w) (by simp [Tryz.f174]) ?_
    simp only [Tryz.f174]
    simp (maxSteps := 2000000) -implicitDefEqProofs only [zz, zE, evop, ev, ofVal, tget, tput, ok, V.isUndef, initT, Ch.on, calleeOf, withArgs, hget, hput, V.cells, ↓reduceIte, Nat.reduceLT, Nat.reduceEqDiff, Nat.reduceAdd, Nat.reduceLeDiff, dLg]
    refine acall_ice' (hK) ?_
    try simp (maxSteps := 2000000) -implicitDefEqProofs only [zz, zE, evop, ev, ofVal, tget, tput, ok, V.isUndef, intBin, Ch.on, told, tids, tidss, hget, hput, freeze, V.cells, V.one, splice, ↓reduceIte, Nat.reduceLT, Nat.reduceEqDiff, Nat.reduceAdd, Nat.reduceLeDiff, nilTest]
    refine wdraw_plan [⟨[], false, [17, 18, 19, 20, 21, 22, 23, 24], [], false⟩, ⟨[0], false, [17, 18, 19, 20, 21, 22, 23, 24], [], false⟩, ⟨[], false, [15, 16, 19, 20, 21, 22], [0, 1], false⟩, ⟨[2], false, [15, 16, 19, 20, 21, 22], [0, 1], false⟩, ⟨[], false, [15, 16, 17, 18], [0, 1, 2, 3], false⟩, ⟨[4], false, [15, 16, 17, 18], [0, 1, 2, 3], false⟩, ⟨[4, 5], false, [15, 16, 17, 18], [0, 1, 2, 3], false⟩, ⟨[4, 5, 6], false, [15, 16, 17, 18], [0, 1, 2, 3], false⟩, ⟨[2, 3, 4, 5, 6, 7], false, [15, 16], [0, 1], false⟩, ⟨[2, 3, 4, 5, 6, 7, 8], false, [15, 16], [0, 1], false⟩, ⟨[0, 1, 2, 3, 4, 5, 6, 7, 8, 9], true, [], [], false⟩, ⟨[0, 1, 2, 3, 4, 5, 6, 7, 8, 9, 10], true, [], [], false⟩, ⟨[0, 1, 2, 3, 4, 5, 6, 7, 8, 9, 10, 11], true, [], [], false⟩] (by decide) ?_
    simp (maxSteps := 2000000) -implicitDefEqProofs only [zz, zE, evop, ev, ofVal, tget, tput, ok, V.isUndef, intBin, Ch.on, xport, xports, hget, hput, V.cells, D.cells, V.isAgg, V.one, loadD, structAt, sliceOf, bound, Blk.width, lenOf, splice, resOf, resV, resVs, ↓reduceIte, reduceCtorEq, Nat.reduceLT, Nat.reduceEqDiff, Nat.reduceAdd, Nat.reduceLeDiff, dI, hw, List.getElem?_map, k1, Option.map_some, Int.natCast_nonneg]
    refine ⟨⟨by omega, by omega, fun e he => ?_⟩, ?_⟩
    · obtain ⟨x, _, rfl⟩ := List.mem_map.1 he
      rfl
    · rw [show logBack l = ((l.1.take ((l.2.getLast?).getD 0).toNat, l.2.dropLast), 0) by simp [logBack, hm], k3]
      have q2 : ((k : Int) - 0).toNat = k := by omega
      rw [q2]
      simp [dLE, dLg]
  · rw [show logKeep l = (l, logMarked l) by simp [logKeep, hm]] at hK
    rw [show logBack l = (l, logMarked l) by simp [logBack, hm]]
    simp only [dLE, dLg] at hK
    refine CSpec.of_awp envOf_ok hmix Tryz.func174 rfl (fun args w => Tryz.call174 args w) (by simp [Tryz.f174]) ?_
    simp only [Tryz.f174]
    simp (maxSteps := 2000000) -implicitDefEqProofs only [zz, zE, evop, ev, ofVal, tget, tput, ok, V.isUndef, initT, Ch.on, calleeOf, withArgs, hget, hput, V.cells, ↓reduceIte, Nat.reduceLT, Nat.reduceEqDiff, Nat.reduceAdd, Nat.reduceLeDiff, dLg]
    refine acall_ice' (hK) ?_
    try simp (maxSteps := 2000000) -implicitDefEqProofs only [zz, zE, evop, ev, ofVal, tget, tput, ok, V.isUndef, intBin, Ch.on, told, xport, xports, tids, tidss, hget, hput, freeze, V.cells, V.one, splice, resOf, resV, resVs, ↓reduceIte, Nat.reduceLT, Nat.reduceEqDiff, Nat.reduceAdd, Nat.reduceLeDiff, nilTest]
    simp [hm, dLE, dLg]

end Go.Proofs.YtjhfpabldidlgaaGreat.AM

set_option linter.all false
set_option maxRecDepth 100000
set_option maxHeartbeats 4000000
namespace Go.Proofs.YtjhfpabldidlgaaGreat.AM
open Go Go.RowKit

theorem set_dW (l : List (Int × Int)) (i : Nat) (a : Int × Int) : (l.map dW).set i (.agg [.int .i64 a.1, .int .i64 a.2]) = (l.set i a).map dW := by
  rw [List.map_set]; rfl

theorem r_Reverse_W (ws : List (Int × Int)) (hl : ws.length ≤ 1000000) : RSpec Tryz.prog 129 [.own 0 0 ws.length] [.dat false 2 (ws.map dW)] (.tuple []) [.dat false 2 (ws.reverse.map dW)] := by
  refine RSpec.of_awp envOf_ok hmix Tryz.func129 rfl (fun args w => Tryz.call129 args w) (by simp [Tryz.f129]) ?_
  simp only [Tryz.f129]
  simp (maxSteps := 2000000) -implicitDefEqProofs only [zz, zE, evop, ev, ofVal, tget, tput, ok, V.isUndef, intBin, Ch.on, hget, sliceOf, lenOf, ↓reduceIte, Nat.reduceLT, Nat.reduceEqDiff, nilTest, initV]
  have hw0 : IntKind.i64.wrap ((ws.length : Int) - 1) = (ws.length : Int) - 1 := wrap_in (by omega)
  refine wloop_ind (σ := Nat × List (Int × Int)) (fun s => ws.length - s.1) (fun s => [(2, .d (.int .i64 s.1)), (3, .d (.int .i64 ((ws.length : Int) - 1 - s.1))), (0, .own 0 0 ws.length)]) (fun s => [.dat false 2 (s.2.map dW)])
    (fun s => s.1 ≤ ws.length ∧ s.2.length = ws.length ∧ ∀ k, k < ws.length → s.2[k]? = if k < s.1 ∨ ws.length ≤ k + s.1 then ws[ws.length - 1 - k]? else ws[k]?) (0, ws) ⟨Nat.zero_le _, rfl, fun k hk => by rw [if_neg (by simp; omega)]⟩ (Weak.sub (by simp [tget, hw0])) ?_
  rintro ⟨i, cur⟩ ⟨hi, hc, hk⟩
  simp only at hi hc hk
  rcases Int.lt_or_le (i : Int) ((ws.length : Int) - 1 - i) with h | h
  · have hj' : ((ws.length : Int) - 1 - (i : Int)) = ((ws.length - 1 - i : Nat) : Int) := by omega
    have hlt : ((i : Int) < ((ws.length - 1 - i : Nat) : Int)) := by omega
    have hij : i < ws.length - 1 - i := by omega
    have hgi : cur[i]? = some cur[i] := List.getElem?_eq_getElem (by omega)
    have hgj : cur[ws.length - 1 - i]? = some (cur[ws.length - 1 - i]'(by omega)) := List.getElem?_eq_getElem (by omega)
    have hgj2 : (cur.set i (cur[ws.length - 1 - i]'(by omega)))[ws.length - 1 - i]? = some (cur[ws.length - 1 - i]'(by omega)) := by
      rw [List.getElem?_set_ne (by omega)]; exact hgj
    simp (maxSteps := 2000000) -implicitDefEqProofs only [zz, evop, ev, tget, tput, ok, V.isUndef, intBin, Ch.on, told, ↓reduceIte, Nat.reduceLT, Nat.reduceEqDiff, nilTest, hj', hlt]
    refine wdraw_plan [⟨[], false, [15, 16, 17, 18, 19, 20, 21, 22, 23, 24, 25], [], false⟩, ⟨[], false, [14, 16, 17, 18, 19, 20, 21, 22, 23, 24, 25], [0], false⟩, ⟨[], false, [14, 15, 16, 17, 18, 19, 20, 21, 22, 23, 24, 25, 26], [0, 1], true⟩, ⟨[], false, [14, 15, 16, 17, 18, 19, 20, 21, 22, 23, 24, 25, 26], [0, 1, 2], true⟩, ⟨[], false, [14, 15, 16, 17, 19, 22, 23, 24, 25], [0, 1, 2, 3], false⟩, ⟨[], false, [14, 15, 16, 17, 18, 22, 23, 24, 25], [0, 1, 2, 3, 4], false⟩, ⟨[4, 5], false, [14, 15, 16, 17, 22, 23, 24, 25], [0, 1, 2, 3], false⟩, ⟨[4, 5, 6], false, [14, 15, 16, 17, 22, 23, 24, 25], [0, 1, 2, 3], false⟩, ⟨[], false, [14, 15, 16, 17, 18, 19, 20, 21, 23], [0, 1, 2, 3, 4, 5, 6, 7], false⟩, ⟨[], false, [14, 15, 16, 17, 18, 19, 20, 21, 22], [0, 1, 2, 3, 4, 5, 6, 7, 8], false⟩, ⟨[8, 9], false, [14, 15, 16, 17, 18, 19, 20, 21], [0, 1, 2, 3, 4, 5, 6, 7], false⟩, ⟨[8, 9, 10], false, [14, 15, 16, 17, 18, 19, 20, 21], [0, 1, 2, 3, 4, 5, 6, 7], false⟩, ⟨[0, 1, 4, 5, 6, 7, 8, 9, 10, 11], false, [16, 17], [2, 3], false⟩, ⟨[0, 1, 4, 5, 6, 7, 8, 9, 10, 11, 12], true, [16, 17], [], false⟩, ⟨[0, 1, 2, 3, 4, 5, 6, 7, 8, 9, 10, 11, 12, 13], true, [], [], false⟩, ⟨[0, 1, 2, 3, 4, 5, 6, 7, 8, 9, 10, 11, 12, 13, 14], true, [], [], false⟩] (by decide) ?_
    simp (maxSteps := 2000000) -implicitDefEqProofs only [zz, zE, evop, ev, ofVal, tget, tput, ok, V.isUndef, intBin, Ch.on, hget, hput, V.cells, D.cells, V.one, V.clo, clos, loadD, Blk.width, splice, D.over, ↓reduceIte, reduceCtorEq, Nat.reduceLT, Nat.reduceEqDiff, Nat.reduceAdd, Nat.reduceLeDiff, nilTest, dW, List.getElem?_map, hgi, hgj, hgj2, Option.map_some, Int.natCast_nonneg, set_dW]
    have hwi : IntKind.i64.wrap ((i : Int) + 1) = ((i + 1 : Nat) : Int) := by rw [wrap_in (by omega)]; omega
    have hwj : IntKind.i64.wrap (((ws.length - 1 - i : Nat) : Int) - 1) = (ws.length : Int) - 1 - ((i + 1 : Nat) : Int) := by rw [wrap_in (by omega)]; omega
    refine ⟨by omega, by omega, by omega, by omega, (i + 1, (cur.set i (cur[ws.length - 1 - i]'(by omega))).set (ws.length - 1 - i) cur[i]), ⟨by simp only; omega, by simp [hc], fun k hkl => ?_⟩, by simp only; omega, Weak.trimsM 1 (by simp) rfl (by simp [tget, hwi, hwj, V.lower]) (by simp [Blk.lower])⟩
    by_cases h1 : ws.length - 1 - i = k
    · subst h1
      rw [List.getElem?_set_self (by simp; omega)]
      rw [if_pos (by simp only; omega)]
      have := hk i (by omega)
      rw [if_neg (by omega), hgi] at this
      have e : ws.length - 1 - (ws.length - 1 - i) = i := by omega
      rw [e, this]
    · rw [List.getElem?_set_ne h1]
      by_cases h2 : i = k
      · subst h2
        rw [List.getElem?_set_self (by omega), if_pos (by simp only; omega)]
        have := hk (ws.length - 1 - i) (by omega)
        rw [if_neg (by omega), hgj] at this
        rw [this]
      · rw [List.getElem?_set_ne h2, hk k hkl]
        have : (k < i ∨ ws.length ≤ k + i) ↔ (k < i + 1 ∨ ws.length ≤ k + (i + 1)) := by omega
        simp only [this]
  · have h' : ¬ ((i : Int) < (ws.length : Int) - 1 - (i : Int)) := by omega
    simp (maxSteps := 2000000) -implicitDefEqProofs only [zz, evop, ev, tget, tput, ok, V.isUndef, intBin, Ch.on, told, resOf, resVs, ↓reduceIte, Nat.reduceLT, Nat.reduceEqDiff, nilTest, h']
    have : cur = ws.reverse := by
      apply List.ext_getElem?
      intro k
      rcases Nat.lt_or_ge k ws.length with hkl | hkl
      · rw [hk k hkl, List.getElem?_reverse (by omega)]
        split
        · rfl
        · rename_i hn
          have : ws.length - 1 - k = k := by omega
          rw [this]
      · rw [List.getElem?_eq_none (by omega), List.getElem?_eq_none (by simp; omega)]
    rw [this]
    exact Weak.sub (by simp [tget])

end Go.Proofs.YtjhfpabldidlgaaGreat.AM

set_option linter.all false
set_option maxRecDepth 100000
set_option maxHeartbeats 4000000
namespace Go.Proofs.YtjhfpabldidlgaaGreat.AM
open Go Go.RowKit

section
variable {α : Type}

def insK (lt : α → α → Bool) (x : α) (A : List α) : Nat := A.length - (A.reverse.takeWhile (lt x)).length
def insR (lt : α → α → Bool) (x : α) (A : List α) : List α := A.take (insK lt x A) ++ x :: A.drop (insK lt x A)
def isort (lt : α → α → Bool) (l : List α) : List α := l.foldl (fun A x => insR lt x A) []

theorem takeWhile_len {p : α → Bool} : ∀ (l : List α) (k : Nat), k ≤ l.length → (∀ i, i < k → ∀ y, l[i]? = some y → p y = true) → (∀ y, l[k]? = some y → p y = false) → (l.takeWhile p).length = k
  | [], k, h, _, _ => by simp at h; simp [h]
  | a :: l, 0, h, _, h2 => by
    have := h2 a rfl
    simp [List.takeWhile_cons, this]
  | a :: l, k + 1, h, h1, h2 => by
    have ha := h1 0 (by omega) a rfl
    rw [List.takeWhile_cons, if_pos ha, List.length_cons, takeWhile_len l k (by simpa using h) (fun i hi y hy => h1 (i + 1) (by omega) y (by simpa using hy)) (fun y hy => h2 y (by simpa using hy))]

theorem insK_eq {lt : α → α → Bool} {x : α} {A : List α} {k : Nat} (hk : k ≤ A.length) (h1 : ∀ i, k ≤ i → ∀ y, A[i]? = some y → lt x y = true) (h2 : k = 0 ∨ ∃ y, A[k - 1]? = some y ∧ lt x y = false) : insK lt x A = k := by
  unfold insK
  rw [takeWhile_len A.reverse (A.length - k) (by simp) (fun i hi y hy => ?_) (fun y hy => ?_)]
  · omega
  · rw [List.getElem?_reverse (by omega)] at hy
    exact h1 _ (by omega) y hy
  · have hlt : A.length - k < A.reverse.length := (List.getElem?_eq_some_iff.1 hy).1
    simp at hlt
    rw [List.getElem?_reverse (by omega)] at hy
    rcases h2 with h2 | ⟨z, hz, hz2⟩
    · omega
    · have e : A.length - 1 - (A.length - k) = k - 1 := by omega
      rw [e, hz] at hy; cases hy; exact hz2

def insAt (P A R : List α) (x : α) (k : Nat) : List α := P ++ (A.take k ++ x :: A.drop k) ++ R

theorem insAt_length {P A R : List α} {x : α} {k : Nat} (hk : k ≤ A.length) : (insAt P A R x k).length = P.length + A.length + 1 + R.length := by
  simp [insAt]; omega

theorem insAt_get {P A R : List α} {x : α} {k : Nat} (hk : k ≤ A.length) (i : Nat) : (insAt P A R x k)[i]? = if i < P.length then P[i]? else if i < P.length + k then A[i - P.length]? else if i = P.length + k then some x else if i ≤ P.length + A.length then A[i - P.length - 1]? else R[i - P.length - A.length - 1]? := by
  unfold insAt
  rw [List.append_assoc, List.getElem?_append]
  by_cases h1 : i < P.length
  · rw [if_pos h1, if_pos h1]
  · rw [if_neg h1, if_neg h1, List.getElem?_append]
    have hl : (A.take k ++ x :: A.drop k).length = A.length + 1 := by simp; omega
    rw [hl, List.getElem?_append]
    have hl2 : (A.take k).length = k := by simp; omega
    rw [hl2]
    by_cases h2 : i < P.length + k
    · rw [if_pos (by omega), if_pos (by omega), if_pos h2, List.getElem?_take, if_pos (by omega)]
    · rw [if_neg h2]
      by_cases h3 : i = P.length + k
      · rw [if_pos (by omega), if_neg (by omega), if_pos h3]
        have : i - P.length - k = 0 := by omega
        rw [this]; rfl
      · rw [if_neg h3]
        by_cases h4 : i ≤ P.length + A.length
        · rw [if_pos (by omega), if_neg (by omega), if_pos h4]
          obtain ⟨d, hd⟩ : ∃ d, i - P.length - k = d + 1 := ⟨i - P.length - k - 1, by omega⟩
          rw [hd, List.getElem?_cons_succ, List.getElem?_drop]
          congr 1; omega
        · rw [if_neg (by omega), if_neg h4]
          congr 1

theorem insAt_swap {P A R : List α} {x y : α} {k : Nat} (hk : k + 1 ≤ A.length) (hy : A[k]? = some y) : ((insAt P A R x (k + 1)).set (P.length + k + 1) y).set (P.length + k) x = insAt P A R x k := by
  apply List.ext_getElem?
  intro i
  have hlen := insAt_length (P := P) (R := R) (x := x) hk
  by_cases h1 : P.length + k = i
  · subst h1
    rw [List.getElem?_set_self (by simp; omega), insAt_get (by omega), if_neg (by omega), if_neg (by omega), if_pos rfl]
  · rw [List.getElem?_set_ne h1]
    by_cases h2 : P.length + k + 1 = i
    · subst h2
      rw [List.getElem?_set_self (by omega), insAt_get (by omega), if_neg (by omega), if_neg (by omega), if_neg (by omega), if_pos (by omega)]
      have : P.length + k + 1 - P.length - 1 = k := by omega
      rw [this, hy]
    · rw [List.getElem?_set_ne h2, insAt_get hk, insAt_get (by omega)]
      by_cases h3 : i < P.length
      · rw [if_pos h3, if_pos h3]
      · rw [if_neg h3, if_neg h3]
        by_cases h4 : i < P.length + k
        · rw [if_pos (by omega), if_pos h4]
        · have f1 : ¬ i < P.length + (k + 1) := by omega
          have f2 : ¬ i = P.length + (k + 1) := by omega
          have f3 : ¬ i = P.length + k := by omega
          simp only [f1, f2, f3, h4, if_false]

end

theorem isort_snoc {α : Type} (lt : α → α → Bool) (l : List α) (x : α) : isort lt (l ++ [x]) = insR lt x (isort lt l) := by simp [isort]
theorem insR_length {α : Type} (lt : α → α → Bool) (x : α) (A : List α) : (insR lt x A).length = A.length + 1 := by
  simp [insR]; unfold insK; omega
theorem isort_length {α : Type} (lt : α → α → Bool) : ∀ (l : List α), (isort lt l).length = l.length := by
  intro l
  have : ∀ (l A : List α), (l.foldl (fun A x => insR lt x A) A).length = A.length + l.length := by
    intro l
    induction l with
    | nil => intro A; simp
    | cons x l ih => intro A; simp only [List.foldl_cons]; rw [ih, insR_length]; simp; omega
  simpa [isort] using this l []

def sortPart (lt : Int × Int → Int × Int → Bool) (ws : List (Int × Int)) (a b : Nat) : List (Int × Int) := ws.take a ++ isort lt ((ws.drop a).take (b - a)) ++ ws.drop b

theorem r_insertion_W (ws : List (Int × Int)) (a b : Nat) (hab : a ≤ b) (hb : b ≤ ws.length) (hl : ws.length ≤ 1000000) (f : Nat) (c : Int × Int → Int × Int → Int)
    (hc : ∀ x y, CSpec Tryz.prog f [dW x, dW y] (.int .i64 (c x y))) : RSpec Tryz.prog 219 [.own 0 0 ws.length, .d (.int .i64 a), .d (.int .i64 b), .func (f, 0) []] [.dat false 2 (ws.map dW)] (.tuple [])
      [.dat false 2 ((sortPart (fun x y => decide (c x y < 0)) ws a b).map dW)] := by
  refine RSpec.of_awp envOf_ok hmix Tryz.func219 rfl (fun args w => Tryz.call219 args w) (by simp [Tryz.f219]) ?_
  simp only [Tryz.f219]
  simp (maxSteps := 2000000) -implicitDefEqProofs only [zz, evop, ev, ofVal, tget, tput, ok, V.isUndef, intBin, Ch.on, ↓reduceIte, reduceCtorEq, Nat.reduceLT, Nat.reduceAdd, nilTest, initV]
  have hw0 : IntKind.i64.wrap ((a : Int) + 1) = ((a + 1 : Nat) : Int) := by rw [wrap_in (by omega)]; omega
  let lt : Int × Int → Int × Int → Bool := fun x y => decide (c x y < 0)
  rcases Nat.eq_or_lt_of_le hab with hab' | hab'
  · subst hab'
    have e0 : sortPart (fun x y => decide (c x y < 0)) ws a a = ws := by simp [sortPart, isort]
    refine wloop_count 0 (fun i => [(8, .d (.int .i64 ((a + 1 : Nat) : Int))), (0, .own 0 0 ws.length), (1, .d (.int .i64 a)), (2, .d (.int .i64 a)), (3, .func (f, 0) [])]) (fun i => [.dat false 2 (ws.map dW)]) (fun i => True) trivial (Weak.sub (by simp [tget, hw0])) (fun i hi _ => by omega) (fun _ => ?_)
    have h' : ¬ (((a + 1 : Nat) : Int) < (a : Int)) := by omega
    simp (maxSteps := 2000000) -implicitDefEqProofs only [zz, evop, ev, tget, tput, ok, V.isUndef, intBin, Ch.on, told, resOf, resVs, ↓reduceIte, reduceCtorEq, Nat.reduceLT, Nat.reduceEqDiff, nilTest, h', e0]
    exact Weak.sub (by simp [tget])
  refine wloop_count (b - (a + 1)) (fun i => [(8, .d (.int .i64 ((a + 1 + i : Nat) : Int))), (0, .own 0 0 ws.length), (1, .d (.int .i64 a)), (2, .d (.int .i64 b)), (3, .func (f, 0) [])]) (fun i => [.dat false 2 ((sortPart lt ws a (a + 1 + i)).map dW)]) (fun i => True) trivial ?_ (fun i hi _ => ?_) (fun _ => ?_)
  · have e1 : sortPart lt ws a (a + 1 + 0) = ws := by
      have h1 : (ws.drop a).take (a + 1 + 0 - a) = [ws[a]] := by
        have : a + 1 + 0 - a = 1 := by omega
        rw [this, List.drop_eq_getElem_cons (by omega)]; rfl
      unfold sortPart
      rw [h1]
      have h2 : isort lt [ws[a]] = [ws[a]] := rfl
      rw [h2, List.append_assoc, List.singleton_append, ← List.drop_eq_getElem_cons (by omega), List.take_append_drop]
    rw [e1]
    exact Weak.sub (by simp [tget, hw0])
  · have h' : (((a + 1 + i : Nat) : Int) < (b : Int)) := by omega
    have hlt : a + 1 + i < ws.length := by omega
    obtain ⟨x, hx⟩ : ∃ x, x = ws[a + 1 + i] := ⟨_, rfl⟩
    obtain ⟨A, hA⟩ : ∃ A, A = isort lt ((ws.drop a).take (a + 1 + i - a)) := ⟨_, rfl⟩
    have hAl : A.length = 1 + i := by rw [hA, isort_length]; simp; omega
    have hPl : (ws.take a).length = a := by simp; omega
    have e1 : sortPart lt ws a (a + 1 + i) = insAt (ws.take a) A (ws.drop (a + 1 + i + 1)) x A.length := by
      unfold sortPart insAt
      rw [← hA, List.take_of_length_le (Nat.le_refl _), List.drop_of_length_le (Nat.le_refl _), List.drop_eq_getElem_cons hlt, hx]
      simp
    have e2 : ∀ k, insK lt x A = k → sortPart lt ws a (a + 1 + (i + 1)) = insAt (ws.take a) A (ws.drop (a + 1 + i + 1)) x k := fun k hk => by
      unfold sortPart insAt
      have h1 : (ws.drop a).take (a + 1 + (i + 1) - a) = (ws.drop a).take (a + 1 + i - a) ++ [x] := by
        have h2 : a + 1 + (i + 1) - a = (a + 1 + i - a) + 1 := by omega
        rw [h2, List.take_add_one, List.getElem?_drop]
        have h3 : a + (a + 1 + i - a) = a + 1 + i := by omega
        rw [h3, List.getElem?_eq_getElem hlt, hx]; rfl
      rw [h1, isort_snoc, ← hA, insR, hk]
      have h4 : a + 1 + (i + 1) = a + 1 + i + 1 := by omega
      rw [h4]
    have hIl : ∀ k, k ≤ A.length → (insAt (ws.take a) A (ws.drop (a + 1 + i + 1)) x k).length = ws.length := fun k hk => by
      rw [insAt_length hk, hPl, hAl]; simp; omega
    have hwi : IntKind.i64.wrap (((a + 1 + i : Nat) : Int) + 1) = ((a + 1 + (i + 1) : Nat) : Int) := by rw [wrap_in (by omega)]; omega
    simp (maxSteps := 2000000) -implicitDefEqProofs only [zz, evop, ev, tget, tput, ok, V.isUndef, intBin, Ch.on, told, ↓reduceIte, reduceCtorEq, Nat.reduceLT, Nat.reduceEqDiff, nilTest, h', e1]
    refine wloop_ind (σ := Nat) (fun k => k) (fun k => [(9, .d (.int .i64 ((a + k : Nat) : Int))), (8, .d (.int .i64 ((a + 1 + i : Nat) : Int))), (0, .own 0 0 ws.length), (1, .d (.int .i64 a)), (2, .d (.int .i64 b)), (3, .func (f, 0) [])])
      (fun k => [.dat false 2 ((insAt (ws.take a) A (ws.drop (a + 1 + i + 1)) x k).map dW)]) (fun k => k ≤ A.length ∧ ∀ i, k ≤ i → ∀ y, A[i]? = some y → lt x y = true) A.length ⟨Nat.le_refl _, fun i hi y hy => by have := (List.getElem?_eq_some_iff.1 hy).1; omega⟩ (Weak.sub ?_) ?_
    · have : ((a + A.length : Nat) : Int) = ((a + 1 + i : Nat) : Int) := by omega
      simp [tget, this]
    rintro k ⟨hk, hgt⟩
    rcases Nat.eq_zero_or_pos k with hk0 | hk0
    · subst hk0
      have hf' : ¬ ((a : Int) < (a : Int)) := by omega
      have e3 := e2 0 (insK_eq (Nat.zero_le _) hgt (.inl rfl))
      simp (maxSteps := 2000000) -implicitDefEqProofs only [zz]
      refine wdraw_plan [⟨[], false, [19], [], false⟩, ⟨[], false, [18], [0], false⟩, ⟨[0, 1], true, [], [], false⟩, ⟨[0, 1, 2], true, [], [], false⟩, ⟨[0, 1, 2, 3], false, [23, 24, 25, 26, 27, 28, 29, 30, 31], [], false⟩, ⟨[0, 1, 2, 3], false, [22, 24, 27, 28, 29, 30, 31], [4], false⟩, ⟨[0, 1, 2, 3], false, [22, 23, 27, 28, 29, 30, 31], [4, 5], false⟩, ⟨[0, 1, 2, 3, 5, 6], false, [22, 27, 28, 29, 30, 31], [4], false⟩, ⟨[0, 1, 2, 3, 5, 6, 7], false, [22, 27, 28, 29, 30, 31], [4], false⟩, ⟨[0, 1, 2, 3], false, [22, 23, 24, 25, 26, 28, 29], [4, 5, 6, 7, 8], false⟩, ⟨[0, 1, 2, 3], false, [22, 23, 24, 25, 26, 27], [4, 5, 6, 7, 8, 9], false⟩, ⟨[0, 1, 2, 3, 10], false, [22, 23, 24, 25, 26, 27], [4, 5, 6, 7, 8, 9], false⟩, ⟨[0, 1, 2, 3, 9, 10, 11], false, [22, 23, 24, 25, 26], [4, 5, 6, 7, 8], false⟩, ⟨[0, 1, 2, 3, 9, 10, 11, 12], false, [22, 23, 24, 25, 26], [4, 5, 6, 7, 8], false⟩, ⟨[0, 1, 2, 3, 4, 5, 6, 7, 8, 9, 10, 11, 12, 13], false, [], [], false⟩, ⟨[0, 1, 2, 3, 4, 5, 6, 7, 8, 9, 10, 11, 12, 13, 14], false, [], [], false⟩, ⟨[0, 1, 2, 3, 4, 5, 6, 7, 8, 9, 10, 11, 12, 13, 14, 15], true, [], [], false⟩] (by decide) ?_
      simp (maxSteps := 2000000) -implicitDefEqProofs only [zz, zE, evop, ev, ofVal, tget, tput, ok, V.isUndef, intBin, guardOf, Ch.on, told, hput, V.cells, V.isAgg, ↓reduceIte, reduceCtorEq, Nat.reduceLT, Nat.reduceEqDiff, Nat.reduceAdd, Nat.reduceSub, Nat.reduceLeDiff, nilTest, hf']
      rw [e3]
      exact Weak.trimsM 1 (by simp) rfl (by simp [tget, V.lower, lowerL]; rw [wrap_in (by omega)]; omega) (by simp [Blk.lower])
    · obtain ⟨k, rfl⟩ : ∃ k', k = k' + 1 := ⟨k - 1, by omega⟩
      have hgy : A[k]? = some A[k] := List.getElem?_eq_getElem (by omega)
      obtain ⟨y, hy⟩ : ∃ y, y = A[k] := ⟨_, rfl⟩
      rw [← hy] at hgy
      have hg1 : (insAt (ws.take a) A (ws.drop (a + 1 + i + 1)) x (k + 1))[a + (k + 1)]? = some x := by
        rw [insAt_get hk, hPl, if_neg (by omega), if_neg (by omega), if_pos rfl]
      have hg0 : (insAt (ws.take a) A (ws.drop (a + 1 + i + 1)) x (k + 1))[a + k]? = some y := by
        rw [insAt_get hk, hPl, if_neg (by omega), if_pos (by omega)]
        have : a + k - a = k := by omega
        rw [this]; exact hgy
      have hg2 : ((insAt (ws.take a) A (ws.drop (a + 1 + i + 1)) x (k + 1)).set (a + (k + 1)) y)[a + k]? = some y := by
        rw [List.getElem?_set_ne (by omega)]; exact hg0
      have hsw : ((insAt (ws.take a) A (ws.drop (a + 1 + i + 1)) x (k + 1)).set (a + (k + 1)) y).set (a + k) x = insAt (ws.take a) A (ws.drop (a + 1 + i + 1)) x k := by
        have := insAt_swap (P := ws.take a) (R := ws.drop (a + 1 + i + 1)) (x := x) hk hgy
        rw [hPl] at this; exact this
      have hf' : ((a : Int) < ((a + (k + 1) : Nat) : Int)) := by omega
      have hw1 : IntKind.i64.wrap (((a + (k + 1) : Nat) : Int) - 1) = ((a + k : Nat) : Int) := by rw [wrap_in (by omega)]; omega
      simp (maxSteps := 2000000) -implicitDefEqProofs only [zz]
      refine wdraw_plan [⟨[], false, [19], [], false⟩, ⟨[], false, [18], [0], false⟩, ⟨[0, 1], true, [], [], false⟩, ⟨[0, 1, 2], true, [], [], false⟩, ⟨[0, 1, 2, 3], false, [23, 24, 25, 26, 27, 28, 29, 30, 31], [], false⟩, ⟨[0, 1, 2, 3], false, [22, 24, 27, 28, 29, 30, 31], [4], false⟩, ⟨[0, 1, 2, 3], false, [22, 23, 27, 28, 29, 30, 31], [4, 5], false⟩, ⟨[0, 1, 2, 3, 5, 6], false, [22, 27, 28, 29, 30, 31], [4], false⟩, ⟨[0, 1, 2, 3, 5, 6, 7], false, [22, 27, 28, 29, 30, 31], [4], false⟩, ⟨[0, 1, 2, 3], false, [22, 23, 24, 25, 26, 28, 29], [4, 5, 6, 7, 8], false⟩, ⟨[0, 1, 2, 3], false, [22, 23, 24, 25, 26, 27], [4, 5, 6, 7, 8, 9], false⟩, ⟨[0, 1, 2, 3, 10], false, [22, 23, 24, 25, 26, 27], [4, 5, 6, 7, 8, 9], false⟩, ⟨[0, 1, 2, 3, 9, 10, 11], false, [22, 23, 24, 25, 26], [4, 5, 6, 7, 8], false⟩, ⟨[0, 1, 2, 3, 9, 10, 11, 12], false, [22, 23, 24, 25, 26], [4, 5, 6, 7, 8], false⟩, ⟨[0, 1, 2, 3, 4, 5, 6, 7, 8, 9, 10, 11, 12, 13], false, [], [], false⟩, ⟨[0, 1, 2, 3, 4, 5, 6, 7, 8, 9, 10, 11, 12, 13, 14], false, [], [], false⟩, ⟨[0, 1, 2, 3, 4, 5, 6, 7, 8, 9, 10, 11, 12, 13, 14, 15], true, [], [], false⟩] (by decide) ?_
      simp (maxSteps := 2000000) -implicitDefEqProofs only [zz, zE, evop, ev, ofVal, tget, tput, ok, V.isUndef, intBin, guardOf, Ch.on, calleeOf, withArgs, hget, hput, V.cells, D.cells, V.isAgg, loadD, Blk.width, ↓reduceIte, reduceCtorEq, Nat.reduceLT, Nat.reduceEqDiff, Nat.reduceAdd, Nat.reduceSub, Nat.reduceLeDiff, dW, hf', hw1, List.getElem?_map, hg1, hg0, Option.map_some, Int.natCast_nonneg]
      refine ⟨by omega, by omega, ?_⟩
      refine dcall_flat (ds := [dW x, dW y]) (by simp only [xports, xport, dW]) (hc x y) rfl ?_
      simp (maxSteps := 2000000) -implicitDefEqProofs only [zz, evop, ev, ofVal, tget, tput, ok, V.isUndef, intBin, Ch.on, told, ↓reduceIte, Nat.reduceLT, Nat.reduceEqDiff, Nat.reduceAdd, nilTest]
      split
      · rename_i hlt'
        refine wdraw_plan [⟨[], false, [38, 39, 40, 41, 42, 43, 44, 45, 46, 47, 48, 49, 50], [], false⟩, ⟨[], false, [37, 39, 40, 41, 42, 43, 44, 45, 46, 47, 48, 49, 50], [0], false⟩, ⟨[], false, [37, 38, 39, 40, 41, 42, 43, 44, 45, 46, 47, 48, 49, 50, 51], [0, 1], true⟩, ⟨[], false, [37, 38, 39, 40, 41, 42, 43, 44, 45, 46, 47, 48, 49, 50, 51], [0, 1, 2], true⟩, ⟨[3], false, [37, 38, 39, 41, 42, 43, 44, 45, 46, 47, 48, 49, 50, 51], [0, 1, 2], true⟩, ⟨[], false, [37, 38, 39, 40, 41, 43, 44, 47, 48, 49, 50], [0, 1, 2, 3, 4], false⟩, ⟨[], false, [37, 38, 39, 40, 41, 42, 47, 48, 49, 50], [0, 1, 2, 3, 4, 5], false⟩, ⟨[6], false, [37, 38, 39, 40, 41, 42, 47, 48, 49, 50], [0, 1, 2, 3, 4, 5], false⟩, ⟨[5, 6, 7], false, [37, 38, 39, 40, 41, 47, 48, 49, 50], [0, 1, 2, 3, 4], false⟩, ⟨[5, 6, 7, 8], false, [37, 38, 39, 40, 41, 47, 48, 49, 50], [0, 1, 2, 3, 4], false⟩, ⟨[], false, [37, 38, 39, 40, 41, 42, 43, 44, 45, 46, 48], [0, 1, 2, 3, 4, 5, 6, 7, 8, 9], false⟩, ⟨[], false, [37, 38, 39, 40, 41, 42, 43, 44, 45, 46, 47], [0, 1, 2, 3, 4, 5, 6, 7, 8, 9, 10], false⟩, ⟨[10, 11], false, [37, 38, 39, 40, 41, 42, 43, 44, 45, 46], [0, 1, 2, 3, 4, 5, 6, 7, 8, 9], false⟩, ⟨[10, 11, 12], false, [37, 38, 39, 40, 41, 42, 43, 44, 45, 46], [0, 1, 2, 3, 4, 5, 6, 7, 8, 9], false⟩, ⟨[0, 1, 5, 6, 7, 8, 9, 10, 11, 12, 13], false, [39, 40, 41], [2, 3, 4], false⟩, ⟨[0, 1, 5, 6, 7, 8, 9, 10, 11, 12, 13, 14], true, [39, 40, 41], [], false⟩, ⟨[0, 1, 2, 3, 4, 5, 6, 7, 8, 9, 10, 11, 12, 13, 14, 15], true, [], [], false⟩, ⟨[0, 1, 2, 3, 4, 5, 6, 7, 8, 9, 10, 11, 12, 13, 14, 15, 16], true, [], [], false⟩] (by decide) ?_
        simp (maxSteps := 2000000) -implicitDefEqProofs only [zz, zE, evop, ev, ofVal, tget, tput, ok, V.isUndef, intBin, Ch.on, hget, hput, V.cells, D.cells, V.isAgg, V.one, V.clo, clos, loadD, Blk.width, splice, D.over, ↓reduceIte, reduceCtorEq, Nat.reduceLT, Nat.reduceEqDiff, Nat.reduceAdd, Nat.reduceLeDiff, nilTest, dW, hw1, List.getElem?_map, hg1, hg0, hg2, Option.map_some, Int.natCast_nonneg, set_dW, hsw]
        refine ⟨by omega, by omega, by omega, by omega, k, ⟨by omega, fun i hi z hz => ?_⟩, by omega, Weak.trimsM 1 (by simp) rfl (by simp [tget, hw1, V.lower, lowerL]) (by simp [Blk.lower])⟩
        by_cases e : i = k
        · subst e; rw [hgy] at hz; cases hz; simpa [lt] using hlt'
        · exact hgt i (by omega) z hz
      · rename_i hlt'
        have e3 := e2 (k + 1) (insK_eq hk hgt (.inr ⟨y, by simpa using hgy, by simpa [lt] using hlt'⟩))
        rw [e3]
        exact Weak.trimsM 1 (by simp) rfl (by simp [tget, V.lower, lowerL]; rw [wrap_in (by omega)]; omega) (by simp [Blk.lower])
  · have h' : ¬ (((a + 1 + (b - (a + 1)) : Nat) : Int) < (b : Int)) := by omega
    have e1 : a + 1 + (b - (a + 1)) = b := by omega
    have h'' : ¬ ((b : Int) < (b : Int)) := by omega
    simp (maxSteps := 2000000) -implicitDefEqProofs only [zz, evop, ev, tget, tput, ok, V.isUndef, intBin, Ch.on, told, resOf, resVs, ↓reduceIte, reduceCtorEq, Nat.reduceLT, Nat.reduceEqDiff, nilTest, h'', e1]
    refine Weak.sub (T := [(0, V.tuple [])]) (H := [.dat false 2 ((sortPart lt ws a b).map dW)]) ?_
    simp [tget]

end Go.Proofs.YtjhfpabldidlgaaGreat.AM

set_option linter.all false
set_option maxRecDepth 100000
set_option maxHeartbeats 4000000
namespace Go.Proofs.YtjhfpabldidlgaaGreat.AM
open Go Go.RowKit

def cmpctGo {α : Type} (q : α → α → Bool) : α → List α → List α
  | _, [] => []
  | p, y :: r => cond (q y p) (cmpctGo q y r) (y :: cmpctGo q y r)
def cmpct {α : Type} (q : α → α → Bool) : List α → List α
  | [] => []
  | x :: r => x :: cmpctGo q x r

theorem cmpctGo_snoc {α : Type} {q : α → α → Bool} : ∀ (l : List α) (p : α) (y : α), cmpctGo q p (l ++ [y]) = cond (q y ((l.getLast?).getD p)) (cmpctGo q p l) (cmpctGo q p l ++ [y])
  | [], p, y => by simp [cmpctGo]
  | z :: l, p, y => by
    have ih := cmpctGo_snoc (q := q) l z y
    have hz : ((z :: l).getLast?).getD p = (l.getLast?).getD z := by cases l <;> simp [List.getLast?_cons]
    rw [hz]
    simp only [List.cons_append, cmpctGo]
    rw [ih]
    cases q z p <;> cases q y ((l.getLast?).getD z) <;> simp

theorem cmpct_snoc {α : Type} {q : α → α → Bool} {l : List α} {y z : α} (h : l.getLast? = some z) : cmpct q (l ++ [y]) = cond (q y z) (cmpct q l) (cmpct q l ++ [y]) := by
  cases l with
  | nil => simp at h
  | cons x r =>
    have hz : (r.getLast?).getD x = z := by cases r <;> simp_all [List.getLast?_cons]
    simp only [List.cons_append, cmpct]
    rw [cmpctGo_snoc, hz]
    cases q y z <;> simp

theorem cmpct_take {α : Type} {q : α → α → Bool} {s : List α} {j : Nat} {y z : α} (hy : s[j + 1]? = some y) (hz : s[j]? = some z) : cmpct q (s.take (j + 2)) = cond (q y z) (cmpct q (s.take (j + 1))) (cmpct q (s.take (j + 1)) ++ [y]) := by
  have h1 : s.take (j + 2) = s.take (j + 1) ++ [y] := by
    rw [List.take_add_one (i := j + 1), hy]; rfl
  have hj := (List.getElem?_eq_some_iff.1 hy).1
  rw [h1]
  refine cmpct_snoc ?_
  rw [List.getLast?_eq_getElem?, List.getElem?_take]
  have : (s.take (j + 1)).length - 1 = j := by simp; omega
  rw [this, if_pos (by omega), hz]

theorem cmpct_len {α : Type} {q : α → α → Bool} : ∀ (l : List α), (cmpct q l).length ≤ l.length := by
  have : ∀ (l : List α) (p : α), (cmpctGo q p l).length ≤ l.length := by
    intro l
    induction l with
    | nil => simp [cmpctGo]
    | cons y r ih => intro p; simp only [cmpctGo]; have := ih y; cases q y p <;> simp <;> omega
  intro l
  cases l with
  | nil => simp [cmpct]
  | cons x r => have := this r x; simp [cmpct]; omega

theorem r_Compact_W (ws : List (Int × Int)) (hl : ws.length ≤ 1000000) (f : Nat) (q : Int × Int → Int × Int → Bool) (hc : ∀ x y, CSpec Tryz.prog f [dW x, dW y] (.bool (q x y))) :
    RSpec Tryz.prog 133 [.own 0 0 ws.length, .func (f, 0) []] [.dat false 2 (ws.map dW)] (.own 0 0 (cmpct q ws).length)
      [.dat false 2 ((cmpct q ws ++ List.replicate (ws.length - (cmpct q ws).length) (0, 0)).map dW)] := by
  refine RSpec.of_awp envOf_ok hmix Tryz.func133 rfl (fun args w => Tryz.call133 args w) (by simp [Tryz.f133]) ?_
  simp only [Tryz.f133]
  simp (maxSteps := 2000000) -implicitDefEqProofs only [zz, zE, evop, ev, ofVal, tget, tput, ok, V.isUndef, intBin, Ch.on, told, hget, sliceOf, lenOf, resOf, resV, resVs, ↓reduceIte, reduceCtorEq, Nat.reduceLT, nilTest, initV]
  rcases Nat.lt_or_ge ws.length 2 with h2 | h2
  · have h2' : ((ws.length : Int) < 2) := by omega
    have e : cmpct q ws = ws := by
      match ws, h2 with
      | [], _ => rfl
      | [x], _ => rfl
    simp (maxSteps := 2000000) -implicitDefEqProofs only [zz, ↓reduceIte, h2', e]
    simp only [Nat.sub_self, List.replicate_zero, List.append_nil]
    exact Weak.sub (by simp [tget])
  have h2' : ¬ ((ws.length : Int) < 2) := by omega
  simp (maxSteps := 2000000) -implicitDefEqProofs only [zz, ↓reduceIte, h2']
  refine wloop_count (ws.length - 1) (fun i => [(5, .d (.int .i64 ((i + 1 : Nat) : Int))), (0, .own 0 0 ws.length), (1, .func (f, 0) [])]) (fun i => [.dat false 2 (ws.map dW)]) (fun i => cmpct q (ws.take (i + 1)) = ws.take (i + 1)) (by cases ws with | nil => rfl | cons x r => rfl) (Weak.sub (by simp [tget])) (fun i hi hI => ?_) (fun hI => ?_)
  · have h' : (((i + 1 : Nat) : Int) < (ws.length : Int)) := by omega
    have hx : ws[i]? = some ws[i] := List.getElem?_eq_getElem (by omega)
    have hy : ws[i + 1]? = some ws[i + 1] := List.getElem?_eq_getElem (by omega)
    have hw1 : IntKind.i64.wrap (((i + 1 : Nat) : Int) - 1) = (i : Int) := by rw [wrap_in (by omega)]; omega
    have hwi : IntKind.i64.wrap (((i + 1 : Nat) : Int) + 1) = ((i + 1 + 1 : Nat) : Int) := by rw [wrap_in (by omega)]; omega
    simp (maxSteps := 2000000) -implicitDefEqProofs only [zz, zE, evop, ev, tget, tput, ok, V.isUndef, intBin, Ch.on, told, hget, sliceOf, lenOf, ↓reduceIte, reduceCtorEq, Nat.reduceLT, Nat.reduceEqDiff, nilTest, h']
    refine wdraw_plan [⟨[], false, [19, 20, 21, 22, 23, 24, 25, 26, 27], [], false⟩, ⟨[], false, [18, 20, 23, 24, 25, 26, 27], [0], false⟩, ⟨[], false, [18, 19, 23, 24, 25, 26, 27], [0, 1], false⟩, ⟨[1, 2], false, [18, 23, 24, 25, 26, 27], [0], false⟩, ⟨[1, 2, 3], false, [18, 23, 24, 25, 26, 27], [0], false⟩, ⟨[], false, [18, 19, 20, 21, 22, 24, 25], [0, 1, 2, 3, 4], false⟩, ⟨[], false, [18, 19, 20, 21, 22, 23], [0, 1, 2, 3, 4, 5], false⟩, ⟨[6], false, [18, 19, 20, 21, 22, 23], [0, 1, 2, 3, 4, 5], false⟩, ⟨[5, 6, 7], false, [18, 19, 20, 21, 22], [0, 1, 2, 3, 4], false⟩, ⟨[5, 6, 7, 8], false, [18, 19, 20, 21, 22], [0, 1, 2, 3, 4], false⟩, ⟨[0, 1, 2, 3, 4, 5, 6, 7, 8, 9], true, [], [], false⟩] (by decide) ?_
    simp (maxSteps := 2000000) -implicitDefEqProofs only [zz, zE, evop, ev, ofVal, tget, tput, ok, V.isUndef, intBin, calleeOf, withArgs, hget, hput, V.cells, D.cells, V.isAgg, loadD, Blk.width, ↓reduceIte, reduceCtorEq, Nat.reduceLT, Nat.reduceEqDiff, Nat.reduceAdd, Nat.reduceLeDiff, dW, h', hw1, List.getElem?_map, hx, hy, Option.map_some, Int.natCast_nonneg]
    refine ⟨by omega, ?_⟩
    refine acall_flat (ds := [dW ws[i + 1], dW ws[i]]) (by simp only [xports, xport, dW]) (hc _ _) rfl ?_
    simp (maxSteps := 2000000) -implicitDefEqProofs only [zz, zE, evop, ev, ofVal, tget, tput, ok, V.isUndef, intBin, Ch.on, told, hget, sliceOf, bound, lenOf, ↓reduceIte, reduceCtorEq, Nat.reduceLT, Nat.reduceEqDiff, Nat.reduceAdd, nilTest]
    split
    · rename_i hq
      have hA0 : cmpct q (ws.take (i + 1 + 0 + 1)) = ws.take (i + 1) := by
        rw [Nat.add_zero, cmpct_take hy hx, hq, cond_true, hI]
      refine ⟨⟨by omega, by omega, by omega⟩, ?_⟩
      refine wloop_count (ws.length - (i + 1) - 1) (fun j => [(7, .d (.int .i64 ((j + 1 : Nat) : Int))), (6, .own 0 (i + 1) (ws.length - (i + 1))), (5, .d (.int .i64 (((cmpct q (ws.take (i + 1 + j + 1))).length : Nat) : Int))), (0, .own 0 0 ws.length), (1, .func (f, 0) [])])
        (fun j => [.dat false 2 ((cmpct q (ws.take (i + 1 + j + 1)) ++ ws.drop (cmpct q (ws.take (i + 1 + j + 1))).length).map dW)])
        (fun j => (cmpct q (ws.take (i + 1 + j + 1))).length ≤ i + 1 + j) (by rw [hA0]; simp; omega) ?_ (fun j hj hJ => ?_) (fun hJ => ?_)
      · have e1 : (ws.take (i + 1)).length = i + 1 := by simp; omega
        rw [hA0, e1, List.take_append_drop]
        exact Weak.trimsM 1 (by simp) rfl (by simp [tget, V.lower, lowerL]; try omega) (by simp [Blk.lower])
      · obtain ⟨A, hA⟩ : ∃ A, A = cmpct q (ws.take (i + 1 + j + 1)) := ⟨_, rfl⟩
        rw [← hA] at hJ
        rw [← hA]
        have h9 : (((j + 1 : Nat) : Int) < ((ws.length - (i + 1) : Nat) : Int)) := by omega
        have hp1 : i + 1 + (j + 1) < ws.length := by omega
        have hu : ws[i + 1 + (j + 1)]? = some ws[i + 1 + (j + 1)] := List.getElem?_eq_getElem hp1
        have hv : ws[i + 1 + j]? = some ws[i + 1 + j] := List.getElem?_eq_getElem (by omega)
        obtain ⟨u, hu'⟩ : ∃ u, u = ws[i + 1 + (j + 1)] := ⟨_, rfl⟩
        obtain ⟨v, hv'⟩ : ∃ v, v = ws[i + 1 + j] := ⟨_, rfl⟩
        rw [← hu'] at hu
        rw [← hv'] at hv
        have g1 : (A ++ ws.drop A.length)[i + 1 + (j + 1)]? = some u := by
          rw [List.getElem?_append_right (by omega), List.getElem?_drop, ← hu]; congr 1; omega
        have g0 : (A ++ ws.drop A.length)[i + 1 + j]? = some v := by
          rw [List.getElem?_append_right (by omega), List.getElem?_drop, ← hv]; congr 1; omega
        have hw2 : IntKind.i64.wrap (((j + 1 : Nat) : Int) - 1) = (j : Int) := by rw [wrap_in (by omega)]; omega
        have hw3 : IntKind.i64.wrap (((j + 1 : Nat) : Int) + 1) = ((j + 1 + 1 : Nat) : Int) := by rw [wrap_in (by omega)]; omega
        have hw4 : IntKind.i64.wrap ((A.length : Int) + 1) = ((A.length + 1 : Nat) : Int) := by rw [wrap_in (by omega)]; omega
        have hst : cmpct q (ws.take (i + 1 + (j + 1) + 1)) = cond (q u v) A (A ++ [u]) := by
          have := cmpct_take (q := q) (s := ws) (j := i + 1 + j) hu hv
          rw [← hA] at this
          exact this
        simp (maxSteps := 2000000) -implicitDefEqProofs only [zz, zE, evop, ev, tget, tput, ok, V.isUndef, intBin, Ch.on, told, hget, sliceOf, lenOf, ↓reduceIte, Nat.reduceLT, Nat.reduceEqDiff, nilTest, h9]
        refine wdraw_plan [⟨[], false, [39, 40, 41, 42, 43, 44, 45, 46, 47], [], false⟩, ⟨[], false, [38, 40, 43, 44, 45, 46, 47], [0], false⟩, ⟨[], false, [38, 39, 43, 44, 45, 46, 47], [0, 1], false⟩, ⟨[1, 2], false, [38, 43, 44, 45, 46, 47], [0], false⟩, ⟨[1, 2, 3], false, [38, 43, 44, 45, 46, 47], [0], false⟩, ⟨[], false, [38, 39, 40, 41, 42, 44, 45], [0, 1, 2, 3, 4], false⟩, ⟨[], false, [38, 39, 40, 41, 42, 43], [0, 1, 2, 3, 4, 5], false⟩, ⟨[6], false, [38, 39, 40, 41, 42, 43], [0, 1, 2, 3, 4, 5], false⟩, ⟨[5, 6, 7], false, [38, 39, 40, 41, 42], [0, 1, 2, 3, 4], false⟩, ⟨[5, 6, 7, 8], false, [38, 39, 40, 41, 42], [0, 1, 2, 3, 4], false⟩, ⟨[0, 1, 2, 3, 4, 5, 6, 7, 8, 9], true, [], [], false⟩, ⟨[0, 1, 2, 3, 4, 5, 6, 7, 8, 9, 10], true, [], [], false⟩] (by decide) ?_
        simp (maxSteps := 2000000) -implicitDefEqProofs only [zz, zE, evop, ev, ofVal, tget, tput, ok, V.isUndef, intBin, calleeOf, withArgs, hget, hput, V.cells, D.cells, V.isAgg, loadD, Blk.width, ↓reduceIte, reduceCtorEq, Nat.reduceLT, Nat.reduceEqDiff, Nat.reduceAdd, Nat.reduceLeDiff, dW, h9, hw2, List.getElem?_map, g1, g0, Option.map_some, Int.natCast_nonneg]
        have hA1 : ((A.length : Int) < (ws.length : Int)) := by omega
        have hset : (A ++ ws.drop A.length).set A.length u = (A ++ [u]) ++ ws.drop (A ++ [u]).length := by
          rw [List.set_append_right _ _ (Nat.le_refl _), Nat.sub_self, List.drop_eq_getElem_cons (by omega), List.set_cons_zero, List.append_assoc]; simp
        refine ⟨by omega, ?_⟩
        refine acall_flat (ds := [dW u, dW v]) (by simp only [xports, xport, dW]) (hc _ _) rfl ?_
        simp (maxSteps := 2000000) -implicitDefEqProofs only [zz, zE, evop, ev, ofVal, tget, tput, ok, V.isUndef, intBin, Ch.on, told, hget, D.cells, loadD, ↓reduceIte, reduceCtorEq, Nat.reduceLT, Nat.reduceEqDiff, Nat.reduceAdd, nilTest]
        rw [hst]
        cases hq2 : q u v
        · simp only [cond_false]
          have gA : (A ++ ws.drop A.length)[A.length]? = some (ws[A.length]'(by omega)) := by
            rw [List.getElem?_append_right (Nat.le_refl _), List.getElem?_drop, Nat.sub_self, Nat.add_zero, List.getElem?_eq_getElem (by omega)]
          simp (maxSteps := 2000000) -implicitDefEqProofs only [zz, zE, evop, ev, ofVal, tget, tput, ok, V.isUndef, intBin, Ch.on, hget, hput, V.cells, D.cells, V.one, V.clo, clos, splice, D.over, ↓reduceIte, Nat.reduceLT, Nat.reduceEqDiff, Nat.reduceAdd, Nat.reduceLeDiff, nilTest, dW, hw3, hw4, hA1, h9, List.getElem?_map, g1, gA, Option.map_some, Int.natCast_nonneg, set_dW, hset]
          have e5 : (A ++ [u]).length = A.length + 1 := by simp
          rw [e5]
          refine ⟨by omega, Weak.trimsM 1 (by simp) rfl (by simp [tget, V.lower, lowerL]) (by simp [Blk.lower])⟩
        · simp only [cond_true]
          simp (maxSteps := 2000000) -implicitDefEqProofs only [zz, ↓reduceIte, hw3]
          refine ⟨by omega, Weak.trimsM 1 (by simp) rfl (by simp [tget, V.lower, lowerL]) (by simp [Blk.lower])⟩
      · have e6 : i + 1 + (ws.length - (i + 1) - 1) + 1 = ws.length := by omega
        rw [e6, List.take_of_length_le (Nat.le_refl _)] at hJ
        rw [e6, List.take_of_length_le (Nat.le_refl _)]
        have hcl := cmpct_len (q := q) ws
        have h9 : ¬ (((ws.length - (i + 1) - 1 + 1 : Nat) : Int) < ((ws.length - (i + 1) : Nat) : Int)) := by omega
        have hA1 : (((cmpct q ws).length : Int) ≤ (ws.length : Int)) := by omega
        have hsub : ((ws.length : Int) - ((cmpct q ws).length : Int)).toNat = ws.length - (cmpct q ws).length := by omega
        simp (maxSteps := 2000000) -implicitDefEqProofs only [zz, zE, evop, ev, tget, tput, ok, V.isUndef, intBin, Ch.on, told, hget, hput, D.cells, V.one, V.clo, clos, sliceOf, bound, lenOf, resOf, resV, resVs, ↓reduceIte, reduceCtorEq, Nat.reduceLT, Nat.reduceEqDiff, Nat.reduceAdd, nilTest, h9, hA1, Int.natCast_nonneg, hsub, zeroD, okEl]
        have e7 : List.take (cmpct q ws).length (List.map dW (cmpct q ws ++ List.drop (cmpct q ws).length ws)) ++ List.replicate (ws.length - (cmpct q ws).length) (D.agg [D.int IntKind.i64 0, D.int IntKind.i64 0]) ++ List.drop ((cmpct q ws).length + (ws.length - (cmpct q ws).length)) (List.map dW (cmpct q ws ++ List.drop (cmpct q ws).length ws))
            = List.map dW (cmpct q ws ++ List.replicate (ws.length - (cmpct q ws).length) (0, 0)) := by
          have e9 : List.drop ((cmpct q ws).length + (ws.length - (cmpct q ws).length)) (List.map dW (cmpct q ws ++ List.drop (cmpct q ws).length ws)) = [] := List.drop_of_length_le (by simp)
          have e10 : List.take (cmpct q ws).length (List.map dW (cmpct q ws ++ List.drop (cmpct q ws).length ws)) = List.map dW (cmpct q ws) := by
            rw [List.map_append, List.take_left' (by simp)]
          rw [e9, e10, List.append_nil, List.map_append, List.map_replicate]; rfl
        rw [e7]
        have e8 : (((cmpct q ws).length : Int) - 0).toNat = (cmpct q ws).length := by omega
        rw [e8]
        exact ⟨Int.le_refl _, Int.le_refl _, Weak.sub (by simp [tget])⟩
    · rename_i hq
      simp (maxSteps := 2000000) -implicitDefEqProofs only [hwi]
      refine ⟨?_, Weak.trimsM 1 (by simp) rfl (by simp [tget, V.lower, lowerL]) (by simp [Blk.lower])⟩
      rw [cmpct_take hy hx]
      simp only [Bool.not_eq_true] at hq
      rw [hq, cond_false, hI]
      rw [List.take_add_one (i := i + 1), hy]; rfl
  · have h' : ¬ (((ws.length - 1 + 1 : Nat) : Int) < (ws.length : Int)) := by omega
    simp (maxSteps := 2000000) -implicitDefEqProofs only [zz, zE, evop, ev, tget, tput, ok, V.isUndef, intBin, Ch.on, told, hget, sliceOf, lenOf, resOf, resV, resVs, ↓reduceIte, reduceCtorEq, Nat.reduceLT, Nat.reduceEqDiff, nilTest, h']
    have e : cmpct q ws = ws := by
      have : ws.take (ws.length - 1 + 1) = ws := List.take_of_length_le (by omega)
      rwa [this] at hI
    rw [e]
    simp only [Nat.sub_self, List.replicate_zero, List.append_nil]
    exact Weak.sub (by simp [tget])


theorem c_Last1 (a b : Int × Int) : CSpec Tryz.prog 131 [dW a, dW b] (.int .i64 (cmpI a.1 b.1)) := by
  refine CSpec.of_awp envOf_ok hmix Tryz.func131 rfl (fun args w => Tryz.call131 args w) (by simp [Tryz.f131]) ?_
  simp only [Tryz.f131]
  simp (maxSteps := 2000000) -implicitDefEqProofs only [zz, zE, evop, ev, ofVal, tget, tput, ok, V.isUndef, initT, Ch.on, calleeOf, withArgs, hget, hput, V.cells, structAt, Blk.width, ↓reduceIte, reduceCtorEq, Nat.reduceLT, Nat.reduceEqDiff, Nat.reduceAdd, dW]
  refine acall_flat' (c_Compare _ _) rfl ?_
  try simp (maxSteps := 2000000) -implicitDefEqProofs only [zz, evop, ev, tget, tput, ok, V.isUndef, Ch.on, xport, resOf, resV, resVs, ↓reduceIte, Nat.reduceLT]

theorem c_Last2 (a b : Int × Int) : CSpec Tryz.prog 134 [dW a, dW b] (.bool (a.1 == b.1)) := by
  refine CSpec.of_awp envOf_ok hmix Tryz.func134 rfl (fun args w => Tryz.call134 args w) (by simp [Tryz.f134]) ?_
  simp only [Tryz.f134]
  simp (maxSteps := 2000000) -implicitDefEqProofs only [zz, zE, evop, ev, ofVal, tget, tput, ok, V.isUndef, intBin, initT, Ch.on, xport, hget, hput, V.cells, structAt, Blk.width, resOf, resV, resVs, ↓reduceIte, reduceCtorEq, Nat.reduceLT, Nat.reduceEqDiff, Nat.reduceAdd, nilTest, dW]

theorem r_stable_few (ws : List (Int × Int)) (hl : ws.length < 20) (f : Nat) (c : Int × Int → Int × Int → Int) (hc : ∀ x y, CSpec Tryz.prog f [dW x, dW y] (.int .i64 (c x y))) :
    RSpec Tryz.prog 185 [.own 0 0 ws.length, .d (.int .i64 ws.length), .func (f, 0) []] [.dat false 2 (ws.map dW)] (.tuple []) [.dat false 2 ((isort (fun x y => decide (c x y < 0)) ws).map dW)] := by
  refine RSpec.of_awp envOf_ok hmix Tryz.func185 rfl (fun args w => Tryz.call185 args w) (by simp [Tryz.f185]) ?_
  simp only [Tryz.f185]
  simp (maxSteps := 2000000) -implicitDefEqProofs only [zz, evop, ev, ofVal, tget, tput, ok, V.isUndef, Ch.on, ↓reduceIte, Nat.reduceLT, Nat.reduceEqDiff, Nat.reduceAdd, initV]
  have hS : sortPart (fun x y => decide (c x y < 0)) ws 0 ws.length = isort (fun x y => decide (c x y < 0)) ws := by simp [sortPart]
  have hR := r_insertion_W ws 0 ws.length (Nat.zero_le _) (Nat.le_refl _) (by omega) f c hc
  rw [hS] at hR
  refine wloop_count 0 (fun i => [(0, .own 0 0 ws.length), (1, .d (.int .i64 ws.length)), (2, .func (f, 0) []), (6, .d (.int .i64 20)), (7, .d (.int .i64 0)), (8, .d (.int .i64 20))]) (fun i => [.dat false 2 (ws.map dW)]) (fun i => True) trivial (Weak.sub (by simp [tget])) (fun i hi _ => by omega) (fun _ => ?_)
  have h' : ¬ ((20 : Int) ≤ (ws.length : Int)) := by omega
  simp (maxSteps := 2000000) -implicitDefEqProofs only [zz, evop, ev, tget, tput, ok, V.isUndef, intBin, Ch.on, calleeOf, withArgs, told, ↓reduceIte, reduceCtorEq, Nat.reduceLT, Nat.reduceEqDiff, nilTest, h']
  refine acall_ref [0] (hR) (by first | rfl | simp [renL, V.ren, frρ, renL_ds]) (by simp) rfl (by simp) (by simp) (by intro j hj; match j, hj with | 0, _ => exact ⟨by simp [hget], rfl⟩) ?_
  try simp (maxSteps := 2000000) -implicitDefEqProofs only [zz, tput, hput, ↓reduceIte, Nat.reduceLT, Blk.ren, V.ren, renL, frameH, putL]
  have hl2 : (isort (fun x y => decide (c x y < 0)) ws).length = ws.length := isort_length _ _
  refine wloop_count 0 (fun i => [(0, .own 0 0 ws.length), (1, .d (.int .i64 ws.length)), (2, .func (f, 0) []), (6, .d (.int .i64 20)), (7, .d (.int .i64 0)), (8, .d (.int .i64 20))]) (fun i => [.dat false 2 ((isort (fun x y => decide (c x y < 0)) ws).map dW)]) (fun i => True) trivial (Weak.sub (by simp [tget])) (fun i hi _ => by omega) (fun _ => ?_)
  have h' : ¬ ((20 : Int) < (ws.length : Int)) := by omega
  simp (maxSteps := 2000000) -implicitDefEqProofs only [zz, evop, ev, tget, tput, ok, V.isUndef, intBin, Ch.on, told, resOf, resVs, ↓reduceIte, reduceCtorEq, Nat.reduceLT, Nat.reduceEqDiff, nilTest, h']
  exact Weak.sub (by simp [tget])

theorem r_SortStable_few (ws : List (Int × Int)) (hl : ws.length < 20) (f : Nat) (c : Int × Int → Int × Int → Int) (hc : ∀ x y, CSpec Tryz.prog f [dW x, dW y] (.int .i64 (c x y))) :
    RSpec Tryz.prog 130 [.own 0 0 ws.length, .func (f, 0) []] [.dat false 2 (ws.map dW)] (.tuple []) [.dat false 2 ((isort (fun x y => decide (c x y < 0)) ws).map dW)] := by
  refine RSpec.of_awp envOf_ok hmix Tryz.func130 rfl (fun args w => Tryz.call130 args w) (by simp [Tryz.f130]) ?_
  simp only [Tryz.f130]
  simp (maxSteps := 2000000) -implicitDefEqProofs only [zz, zE, evop, ev, tget, tput, ok, V.isUndef, Ch.on, calleeOf, withArgs, hget, sliceOf, lenOf, ↓reduceIte, reduceCtorEq, Nat.reduceLT, Nat.reduceEqDiff, initV]
  refine acall_ref [0] (r_stable_few ws hl f c hc) (by first | rfl | simp [renL, V.ren, frρ, renL_ds]) (by simp) rfl (by simp) (by simp) (by intro j hj; match j, hj with | 0, _ => exact ⟨by simp [hget], rfl⟩) ?_
  try simp (maxSteps := 2000000) -implicitDefEqProofs only [zz, tput, hput, resOf, resVs, ↓reduceIte, Nat.reduceLT, Blk.ren, V.ren, renL, frameH, putL]
  exact Weak.sub (by simp [tget])

def lastW (ws : List (Int × Int)) : List (Int × Int) := cmpct (fun a b => a.1 == b.1) (isort (fun x y => decide (cmpI x.1 y.1 < 0)) ws.reverse)

theorem lastW_len (ws : List (Int × Int)) : (lastW ws).length ≤ ws.length := by
  have := cmpct_len (q := fun a b : Int × Int => a.1 == b.1) (isort (fun x y => decide (cmpI x.1 y.1 < 0)) ws.reverse)
  rw [isort_length] at this
  simpa [lastW] using this

end Go.Proofs.YtjhfpabldidlgaaGreat.AM

set_option linter.all false
set_option maxRecDepth 100000
set_option maxHeartbeats 4000000
namespace Go.Proofs.YtjhfpabldidlgaaGreat.AM
open Go Go.RowKit

def srtI (zs : List Int) : List Int := zs.mergeSort fun x y => decide (x ≤ y)
theorem srtI_len (zs : List Int) : (srtI zs).length = zs.length := List.length_mergeSort ..
def cmpZ (zs : List Int) : List Int := cmpct (fun a b => a == b) zs

theorem r_Sort_int (zs : List Int) (hl : zs.length ≤ 1000000) : RSpec Tryz.prog 97 [.own 0 0 zs.length] [.dat false 1 (zs.map dI)] (.tuple []) [.dat false 1 ((srtI zs).map dI)] :=
  RSpec.of_sort (fun args w => Tryz.call97 args w) (fun p cap w => Tryz.slices_Sort_int_none p cap w) (fun blk off cap zs w => Tryz.slices_Sort_int blk off cap zs w) zs hl

theorem compact_upto (zs : List Int) : ∀ m, m ≤ zs.length → Lib.compactUpTo zs.toArray m = cmpct (fun a b => a == b) (zs.take m)
  | 0, _ => by simp [Lib.compactUpTo, cmpct]
  | 1, h => by
    rw [Lib.compactUpTo_succ]
    obtain ⟨x, r, rfl⟩ : ∃ x r, zs = x :: r := by cases zs with
      | nil => simp at h
      | cons x r => exact ⟨x, r, rfl⟩
    simp [Lib.compactUpTo, Lib.keeps, cmpct, cmpctGo]
  | m + 2, h => by
    have hy : zs[m + 1]? = some zs[m + 1] := List.getElem?_eq_getElem (by omega)
    have hz : zs[m]? = some zs[m] := List.getElem?_eq_getElem (by omega)
    rw [Lib.compactUpTo_succ, compact_upto zs (m + 1) (by omega), cmpct_take hy hz]
    have e : Lib.keeps zs.toArray (m + 1) = !(zs[m + 1] == zs[m]) := by
      unfold Lib.keeps
      have h1 : zs.toArray[m + 1]! = zs[m + 1] := by simp [getElem!_def, hy]
      have h2 : zs.toArray[m]! = zs[m] := by simp [getElem!_def, hz]
      rw [Nat.add_sub_cancel, h1, h2]
      by_cases hh : zs[m + 1] = zs[m] <;> simp [hh]
    have h1 : zs.toArray[m + 1]! = zs[m + 1] := by simp [getElem!_def, hy]
    rw [e, h1]
    cases zs[m + 1] == zs[m] <;> simp
theorem compact_eq (zs : List Int) : Lib.compact zs = cmpct (fun a b => a == b) zs := by
  unfold Lib.compact; rw [compact_upto zs _ (Nat.le_refl _), List.take_length]

theorem r_Compact_int (zs : List Int) (hl : zs.length ≤ 1000000) : RSpec Tryz.prog 98 [.own 0 0 zs.length] [.dat false 1 (zs.map dI)] (.own 0 0 (cmpZ zs).length)
    [.dat false 1 ((cmpZ zs ++ List.replicate (zs.length - (cmpZ zs).length) 0).map dI)] := by
  have hc : (cmpZ zs).length ≤ zs.length := cmpct_len zs
  have e : cmpZ zs = Lib.compact zs := (compact_eq zs).symm
  rw [e] at hc ⊢
  exact RSpec.of_compact (fun args w => Tryz.call98 args w) (fun p cap w => Tryz.slices_Compact_int_empty p cap w) zs _ _ hl (by simp; omega) hc
    (fun blk off cap w hH hcap => Tryz.slices_Compact_int blk off cap zs w hH (by omega) hcap)


def cellsT (t : List (Int × Int)) : List Int := (t.filter fun o => o.1 == 2).map fun o => o.2
theorem cellsT_snoc (t : List (Int × Int)) (o : Int × Int) : cellsT (t ++ [o]) = if o.1 == 2 then cellsT t ++ [o.2] else cellsT t := by
  unfold cellsT
  rw [List.filter_append, List.map_append]
  by_cases h : o.1 == 2 <;> simp [h]
theorem cellsT_len (t : List (Int × Int)) : (cellsT t).length ≤ t.length := by
  unfold cellsT; rw [List.length_map]; exact List.length_filter_le ..

theorem o_Cells (t : List (Int × Int)) (hl : t.length ≤ 1000000) (hc : termC t = 0) : FSpec Tryz.prog 210 [.vec (t.map dW)] (.own 0 0 (cmpZ (srtI (cellsT t))).length)
    [.dat false 1 ((cmpZ (srtI (cellsT t)) ++ List.replicate ((cellsT t).length - (cmpZ (srtI (cellsT t))).length) 0).map dI)] := by
  have hcl := cellsT_len t
  refine FSpec.of_awp envOf_ok hmix Tryz.func210 rfl (fun args w => Tryz.call210 args w) (by simp [Tryz.f210]) ?_
  simp only [Tryz.f210]
  simp (maxSteps := 2000000) -implicitDefEqProofs only [zz, evop, ev, ofVal, tget, tput, ok, V.isUndef, initT, Ch.on, calleeOf, withArgs, ↓reduceIte, reduceCtorEq, Nat.reduceLT]
  refine acall_flat' (c_term_Check t hl) rfl ?_
  try simp (maxSteps := 2000000) -implicitDefEqProofs only [zz, zE, evop, ev, ofVal, tget, tput, ok, V.isUndef, intBin, Ch.on, told, sliceOf, lenOf, resOf, resV, resVs, ↓reduceIte, reduceCtorEq, Nat.reduceLT, nilTest]
  simp (maxSteps := 2000000) -implicitDefEqProofs only [zz, ↓reduceIte, hc]
  refine wloop_count t.length (fun i => [(11, .d (.int .i64 i)), (10, .d (.int .i64 t.length)), (9, .d (.vec (t.map dW))), (3, .own 0 0 (cellsT (t.take i)).length)]) (fun i => [.dat false 1 ((cellsT (t.take i)).map dI)]) (fun _ => True) trivial ?_ (fun i hi _ => ?_) (fun _ => ?_)
  · refine Weak.pick [7] (by simp) (by simp) rfl (fun q hq => ?_) (fun i hi => ?_)
    · simp only [List.mem_cons, List.not_mem_nil, or_false] at hq
      rcases hq with rfl | rfl | rfl | rfl
      · exact .same _
      · exact .same _
      · exact .same _
      · exact .nils 0 1 rfl
    · obtain rfl : i = 0 := by simpa using hi
      exact .virt 1 rfl rfl
  · have hx : t[i]? = some t[i] := List.getElem?_eq_getElem hi
    have h' : ((i : Int) < (t.length : Int)) := by omega
    have hw : IntKind.i64.wrap ((i : Int) + 1) = ((i + 1 : Nat) : Int) := by rw [wrap_in (by omega)]; omega
    have hT : t.take (i + 1) = t.take i ++ [t[i]] := by rw [List.take_add_one, hx]; rfl
    have hs := cellsT_snoc (t.take i) t[i]
    rw [← hT] at hs
    simp (maxSteps := 2000000) -implicitDefEqProofs only [zz, zE, evop, ev, ofVal, tget, tput, ok, V.isUndef, intBin, Ch.on, told, hget, hput, V.cells, D.cells, V.one, V.toD, loadD, structAt, sliceOf, partsD, Blk.width, elems, splice, ↓reduceIte, reduceCtorEq, Nat.reduceLT, Nat.reduceEqDiff, Nat.reduceAdd, Nat.reduceMul, Nat.reduceLeDiff, nilTest, dW, h', List.getElem?_map, hx, Option.map_some, Int.natCast_nonneg]
    split
    · rename_i h2
      rw [if_pos (by simpa using h2)] at hs
      simp (maxSteps := 2000000) -implicitDefEqProofs only [hw]
      refine ⟨⟨by have := cellsT_len (t.take i); simp only [List.length_take] at this; omega, okEl_I [t[i].2]⟩, ?_⟩
      have e6 : List.take (cellsT (t.take i)).length ((cellsT (t.take i)).map dI) = (cellsT (t.take i)).map dI := by rw [List.take_of_length_le]; simp
      rw [hs, e6, List.length_append, List.map_append]
      refine Weak.pick [3] (by decide) (by simp) rfl (fun q hq => ?_) (fun i hi => ?_)
      · simp only [List.mem_cons, List.not_mem_nil, or_false] at hq
        rcases hq with rfl | rfl | rfl | rfl <;> exact .same _
      · match i, hi with
        | 0, _ => exact .dat _ _ _ rfl rfl
        | i + 1, hi => exact absurd hi (by simp)
    · rename_i h2
      rw [if_neg (by simpa using h2)] at hs
      simp (maxSteps := 2000000) -implicitDefEqProofs only [hw]
      rw [hs]
      refine Weak.pick [0] (by decide) (by simp) rfl (fun q hq => ?_) (fun i hi => ?_)
      · simp only [List.mem_cons, List.not_mem_nil, or_false] at hq
        rcases hq with rfl | rfl | rfl | rfl <;> exact .same _
      · match i, hi with
        | 0, _ => exact .dat _ _ _ rfl rfl
        | i + 1, hi => exact absurd hi (by simp)
  · have h' : ¬ ((t.length : Int) < (t.length : Int)) := by omega
    rw [List.take_length]
    simp (maxSteps := 2000000) -implicitDefEqProofs only [zz, evop, ev, tget, tput, ok, V.isUndef, intBin, Ch.on, calleeOf, withArgs, told, ↓reduceIte, Nat.reduceLT, Nat.reduceEqDiff, nilTest, h']
    refine acall_ref [0] (r_Sort_int (cellsT t) (by omega)) (by first | rfl | simp [renL, V.ren, frρ, renL_ds]) (by simp) rfl (by simp) (by simp) (by intro j hj; match j, hj with | 0, _ => exact ⟨by simp [hget], rfl⟩) ?_
    try simp (maxSteps := 2000000) -implicitDefEqProofs only [zz, evop, ev, tget, tput, ok, V.isUndef, Ch.on, calleeOf, withArgs, hput, ↓reduceIte, Nat.reduceLT, Nat.reduceEqDiff, Blk.ren, V.ren, renL, frameH, putL]
    have er : RSpec Tryz.prog 98 [.own 0 0 (cellsT t).length] [.dat false 1 ((srtI (cellsT t)).map dI)] (.own 0 0 (cmpZ (srtI (cellsT t))).length)
        [.dat false 1 ((cmpZ (srtI (cellsT t)) ++ List.replicate ((cellsT t).length - (cmpZ (srtI (cellsT t))).length) 0).map dI)] := by
      have := r_Compact_int (srtI (cellsT t)) (by rw [srtI_len]; omega)
      rw [srtI_len] at this
      exact this
    refine acall_ref [0] (er) (by first | rfl | simp [renL, V.ren, frρ, renL_ds]) (by simp) rfl (by simp) (by simp) (by intro j hj; match j, hj with | 0, _ => exact ⟨by simp [hget], rfl⟩) ?_
    try simp (maxSteps := 2000000) -implicitDefEqProofs only [zz, evop, ev, tget, tput, ok, V.isUndef, Ch.on, hput, resOf, resV, resVs, ↓reduceIte, Nat.reduceLT, Nat.reduceSub, Blk.ren, V.ren, frameH, putL, frρ]
    refine Weak.pick [0] (by decide) (by simp) rfl (fun q hq => ?_) (fun i hi => ?_)
    · simp only [List.mem_cons, List.not_mem_nil, or_false] at hq
      rcases hq with rfl <;> exact .same _
    · match i, hi with
      | 0, _ => exact .dat _ _ _ rfl rfl
      | i + 1, hi => exact absurd hi (by simp)

theorem cmpZ_zero (zs : List Int) : (cmpZ zs).length = 0 ↔ zs = [] := by
  cases zs <;> simp [cmpZ, cmpct]
theorem srtI_nil (zs : List Int) : srtI zs = [] ↔ zs = [] := by
  rw [← List.length_eq_zero_iff, srtI_len, List.length_eq_zero_iff]
theorem cellsT_nil (t : List (Int × Int)) : cellsT t = [] ↔ (t.any fun o => o.1 == 2) = false := by
  unfold cellsT
  simp

def reckT (t : List (Int × Int)) : Bool := decide (termC t = 0) && !(t.any fun o => o.1 == 2)
theorem c_reckons (t : List (Int × Int)) (hl : t.length ≤ 1000000) : CSpec Tryz.prog 161 [.vec (t.map dW)] (.bool (reckT t)) := by
  refine CSpec.of_awp envOf_ok hmix Tryz.func161 rfl (fun args w => Tryz.call161 args w) (by simp [Tryz.f161]) ?_
  simp only [Tryz.f161]
  simp (maxSteps := 2000000) -implicitDefEqProofs only [zz, evop, ev, ofVal, tget, tput, ok, V.isUndef, initT, Ch.on, calleeOf, withArgs, ↓reduceIte, reduceCtorEq, Nat.reduceLT]
  refine acall_flat' (c_term_Check t hl) rfl ?_
  try simp (maxSteps := 2000000) -implicitDefEqProofs only [zz, evop, ev, ofVal, tget, tput, ok, V.isUndef, intBin, guardOf, Ch.on, calleeOf, withArgs, xport, resOf, resV, resVs, ↓reduceIte, reduceCtorEq, Nat.reduceLT, Nat.reduceEqDiff, nilTest]
  by_cases h0 : termC t = 0
  · have hz : (((cmpZ (srtI (cellsT t))).length : Int) == 0) = !(t.any fun o => o.1 == 2) := by
      have := (cmpZ_zero (srtI (cellsT t))).trans ((srtI_nil _).trans (cellsT_nil t))
      rw [Bool.eq_iff_iff]
      simp only [beq_iff_eq, Bool.not_eq_true', ← this]
      omega
    have e : reckT t = !(t.any fun o => o.1 == 2) := by unfold reckT; rw [decide_eq_true h0, Bool.true_and]
    have e0 : (termC t == 0) = true := by simpa using h0
    rw [e]
    simp (maxSteps := 2000000) -implicitDefEqProofs only [↓reduceIte, e0]
    refine acall_own' (o_Cells t hl h0) ?_
    try simp (maxSteps := 2000000) -implicitDefEqProofs only [zz, zE, evop, ev, ofVal, tget, tput, ok, V.isUndef, intBin, guardOf, Ch.on, xport, tids, tidss, hget, freeze, sliceOf, lenOf, resOf, resV, resVs, ↓reduceIte, Nat.reduceLT, Nat.reduceEqDiff, nilTest, shiftH, Blk.ren, V.ren]
    rw [hz]
  · have e0 : (termC t == 0) = false := by simpa using h0
    have e : reckT t = false := by unfold reckT; rw [decide_eq_false h0, Bool.false_and]
    rw [e]
    simp (maxSteps := 2000000) -implicitDefEqProofs only [zz, ↓reduceIte, e0]

end Go.Proofs.YtjhfpabldidlgaaGreat.AM

set_option linter.all false
set_option maxRecDepth 100000
set_option maxHeartbeats 4000000
namespace Go.Proofs.YtjhfpabldidlgaaGreat.AM
open Go Go.RowKit

structure St where
  d : Int
  a : Int
  b : Int
  t : List (Int × Int)
  deriving DecidableEq
def dS (s : St) : D := .agg [.int .i64 s.d, .int .i64 s.a, .int .i64 s.b, .vec (s.t.map dW)]
def belowI (n most : Int) : Bool := decide (0 ≤ n) && decide (n < most)
def longI (n : Int) : Bool := decide (1 ≤ n) && decide (n ≤ 24)
def bareT (t : List (Int × Int)) : Bool := (t.length : Int) == 0
def mayS (s : St) : Bool :=
  if s.d = 1 then bareT s.t && belowI s.a 8 && belowI s.b 64
  else if s.d = 2 then belowI s.a 8 && (s.b == 0) && reckT s.t
  else if s.d = 3 then belowI s.a 64 && (s.b == 0) && reckT s.t
  else if s.d = 4 then longI s.a && (s.b == 0) && reckT s.t
  else if s.d = 5 then bareT s.t && (s.a == 0) && (s.b == 0)
  else if s.d = 6 then bareT s.t && belowI s.a 256 && (s.b == 0)
  else (s.d == 7) && bareT s.t && longI s.a && longI s.b

theorem c_below (n m : Int) : CSpec Tryz.prog 160 [.int .i64 n, .int .i64 m] (.bool (belowI n m)) := by
  refine CSpec.of_awp envOf_ok hmix Tryz.func160 rfl (fun args w => Tryz.call160 args w) (by simp [Tryz.f160]) ?_
  simp only [Tryz.f160]
  simp (maxSteps := 2000000) -implicitDefEqProofs only [zz, evop, ev, ofVal, tget, tput, ok, V.isUndef, intBin, guardOf, initT, Ch.on, xport, resOf, resV, resVs, ↓reduceIte, reduceCtorEq, Nat.reduceLT, Nat.reduceEqDiff, nilTest]
  unfold belowI
  by_cases h : n ≥ 0
  · have h' : decide (0 ≤ n) = true := decide_eq_true h
    rw [h', Bool.true_and]
    simp (maxSteps := 2000000) -implicitDefEqProofs only [↓reduceIte, h]
  · have h' : decide (0 ≤ n) = false := decide_eq_false h
    rw [h', Bool.false_and]
    simp (maxSteps := 2000000) -implicitDefEqProofs only [↓reduceIte, h]
theorem c_long (n : Int) : CSpec Tryz.prog 162 [.int .i64 n] (.bool (longI n)) := by
  refine CSpec.of_awp envOf_ok hmix Tryz.func162 rfl (fun args w => Tryz.call162 args w) (by simp [Tryz.f162]) ?_
  simp only [Tryz.f162]
  simp (maxSteps := 2000000) -implicitDefEqProofs only [zz, evop, ev, ofVal, tget, tput, ok, V.isUndef, intBin, guardOf, initT, Ch.on, xport, resOf, resV, resVs, ↓reduceIte, reduceCtorEq, Nat.reduceLT, Nat.reduceEqDiff, nilTest]
  unfold longI
  by_cases h : n ≥ 1
  · have h' : decide (1 ≤ n) = true := decide_eq_true h
    rw [h', Bool.true_and]
    simp (maxSteps := 2000000) -implicitDefEqProofs only [↓reduceIte, h]
  · have h' : decide (1 ≤ n) = false := decide_eq_false h
    rw [h', Bool.false_and]
    simp (maxSteps := 2000000) -implicitDefEqProofs only [↓reduceIte, h]

theorem c_code_may (s : St) (hl : s.t.length ≤ 1000000) : CSpec Tryz.prog 103 [dS s] (.bool (mayS s)) := by
  have hB : ((s.t.length : Int) == 0) = bareT s.t := rfl
  refine CSpec.of_awp envOf_ok hmix Tryz.func103 rfl (fun args w => Tryz.call103 args w) (by simp [Tryz.f103]) ?_
  simp only [Tryz.f103]
  simp (maxSteps := 2000000) -implicitDefEqProofs only [zz, zE, evop, ev, ofVal, tget, tput, ok, V.isUndef, intBin, guardOf, initT, Ch.on, calleeOf, withArgs, told, xport, hget, hput, V.cells, structAt, sliceOf, Blk.width, lenOf, resOf, resV, resVs, ↓reduceIte, reduceCtorEq, Nat.reduceLT, Nat.reduceEqDiff, Nat.reduceAdd, nilTest, dS]
  by_cases h1 : s.d = 1
  · have em : mayS s = (bareT s.t && belowI s.a 8 && belowI s.b 64) := by unfold mayS; rw [if_pos h1]
    rw [em]
    have e1 : (s.d == 1) = true := by simp [h1]
    simp (maxSteps := 2000000) -implicitDefEqProofs only [↓reduceIte, e1, hB]
    cases hb : bareT s.t
    · simp (maxSteps := 2000000) -implicitDefEqProofs only [zz, ↓reduceIte]
    · simp (maxSteps := 2000000) -implicitDefEqProofs only [zz, ↓reduceIte]
      refine acall_flat' (c_below s.a 8) rfl ?_
      try simp (maxSteps := 2000000) -implicitDefEqProofs only [zz, zE, evop, ev, ofVal, tget, tput, ok, V.isUndef, guardOf, Ch.on, calleeOf, withArgs, xport, hget, structAt, Blk.width, resOf, resV, resVs, ↓reduceIte, reduceCtorEq, Nat.reduceLT, Nat.reduceEqDiff, Nat.reduceAdd]
      cases ha : belowI s.a 8
      · simp (maxSteps := 2000000) -implicitDefEqProofs only [zz, ↓reduceIte]
      · simp (maxSteps := 2000000) -implicitDefEqProofs only [zz, ↓reduceIte]
        refine acall_flat' (c_below s.b 64) rfl ?_
        try simp (maxSteps := 2000000) -implicitDefEqProofs only [zz, evop, ev, tget, tput, ok, V.isUndef, Ch.on, xport, resOf, resV, resVs, ↓reduceIte, Nat.reduceLT, Nat.reduceEqDiff]
  have e1 : (s.d == 1) = false := by simp [h1]
  by_cases h2 : s.d = 2
  · have em : mayS s = (belowI s.a 8 && (s.b == 0) && reckT s.t) := by unfold mayS; rw [if_neg h1, if_pos h2]
    rw [em]
    have e2 : (s.d == 2) = true := by simp [h2]
    simp (maxSteps := 2000000) -implicitDefEqProofs only [zz, ↓reduceIte, e1, e2]
    refine acall_flat' (c_below s.a 8) rfl ?_
    try simp (maxSteps := 2000000) -implicitDefEqProofs only [zz, zE, evop, ev, ofVal, tget, tput, ok, V.isUndef, intBin, guardOf, Ch.on, calleeOf, withArgs, xport, hget, structAt, Blk.width, resOf, resV, resVs, ↓reduceIte, reduceCtorEq, Nat.reduceLT, Nat.reduceEqDiff, Nat.reduceAdd, nilTest]
    cases ha : belowI s.a 8
    · simp (maxSteps := 2000000) -implicitDefEqProofs only [zz, ↓reduceIte]
    · simp (maxSteps := 2000000) -implicitDefEqProofs only [zz, ↓reduceIte]
      cases hb : (s.b == 0)
      · simp (maxSteps := 2000000) -implicitDefEqProofs only [zz, ↓reduceIte]
      · simp (maxSteps := 2000000) -implicitDefEqProofs only [zz, ↓reduceIte]
        refine acall_flat' (c_reckons s.t hl) rfl ?_
        try simp (maxSteps := 2000000) -implicitDefEqProofs only [zz, evop, ev, tget, tput, ok, V.isUndef, Ch.on, xport, resOf, resV, resVs, ↓reduceIte, Nat.reduceLT, Nat.reduceEqDiff]
  have e2 : (s.d == 2) = false := by simp [h2]
  by_cases h3 : s.d = 3
  · have em : mayS s = (belowI s.a 64 && (s.b == 0) && reckT s.t) := by unfold mayS; rw [if_neg h1, if_neg h2, if_pos h3]
    rw [em]
    have e3 : (s.d == 3) = true := by simp [h3]
    simp (maxSteps := 2000000) -implicitDefEqProofs only [zz, ↓reduceIte, e1, e2, e3]
    refine acall_flat' (c_below s.a 64) rfl ?_
    try simp (maxSteps := 2000000) -implicitDefEqProofs only [zz, zE, evop, ev, ofVal, tget, tput, ok, V.isUndef, intBin, guardOf, Ch.on, calleeOf, withArgs, xport, hget, structAt, Blk.width, resOf, resV, resVs, ↓reduceIte, reduceCtorEq, Nat.reduceLT, Nat.reduceEqDiff, Nat.reduceAdd, nilTest]
    cases ha : belowI s.a 64
    · simp (maxSteps := 2000000) -implicitDefEqProofs only [zz, ↓reduceIte]
    · simp (maxSteps := 2000000) -implicitDefEqProofs only [zz, ↓reduceIte]
      cases hb : (s.b == 0)
      · simp (maxSteps := 2000000) -implicitDefEqProofs only [zz, ↓reduceIte]
      · simp (maxSteps := 2000000) -implicitDefEqProofs only [zz, ↓reduceIte]
        refine acall_flat' (c_reckons s.t hl) rfl ?_
        try simp (maxSteps := 2000000) -implicitDefEqProofs only [zz, evop, ev, tget, tput, ok, V.isUndef, Ch.on, xport, resOf, resV, resVs, ↓reduceIte, Nat.reduceLT, Nat.reduceEqDiff]
  have e3 : (s.d == 3) = false := by simp [h3]
  by_cases h4 : s.d = 4
  · have em : mayS s = (longI s.a && (s.b == 0) && reckT s.t) := by unfold mayS; rw [if_neg h1, if_neg h2, if_neg h3, if_pos h4]
    rw [em]
    have e4 : (s.d == 4) = true := by simp [h4]
    simp (maxSteps := 2000000) -implicitDefEqProofs only [zz, ↓reduceIte, e1, e2, e3, e4]
    refine acall_flat' (c_long s.a) rfl ?_
    try simp (maxSteps := 2000000) -implicitDefEqProofs only [zz, zE, evop, ev, ofVal, tget, tput, ok, V.isUndef, intBin, guardOf, Ch.on, calleeOf, withArgs, xport, hget, structAt, Blk.width, resOf, resV, resVs, ↓reduceIte, reduceCtorEq, Nat.reduceLT, Nat.reduceEqDiff, Nat.reduceAdd, nilTest]
    cases ha : longI s.a
    · simp (maxSteps := 2000000) -implicitDefEqProofs only [zz, ↓reduceIte]
    · simp (maxSteps := 2000000) -implicitDefEqProofs only [zz, ↓reduceIte]
      cases hb : (s.b == 0)
      · simp (maxSteps := 2000000) -implicitDefEqProofs only [zz, ↓reduceIte]
      · simp (maxSteps := 2000000) -implicitDefEqProofs only [zz, ↓reduceIte]
        refine acall_flat' (c_reckons s.t hl) rfl ?_
        try simp (maxSteps := 2000000) -implicitDefEqProofs only [zz, evop, ev, tget, tput, ok, V.isUndef, Ch.on, xport, resOf, resV, resVs, ↓reduceIte, Nat.reduceLT, Nat.reduceEqDiff]
  have e4 : (s.d == 4) = false := by simp [h4]
  by_cases h5 : s.d = 5
  · have em : mayS s = (bareT s.t && (s.a == 0) && (s.b == 0)) := by unfold mayS; rw [if_neg h1, if_neg h2, if_neg h3, if_neg h4, if_pos h5]
    rw [em]
    have e5 : (s.d == 5) = true := by simp [h5]
    simp (maxSteps := 2000000) -implicitDefEqProofs only [zz, ↓reduceIte, e1, e2, e3, e4, e5, hB]
    cases hb : bareT s.t
    · simp (maxSteps := 2000000) -implicitDefEqProofs only [zz, ↓reduceIte]
    · simp (maxSteps := 2000000) -implicitDefEqProofs only [zz, ↓reduceIte]
      cases ha : (s.a == 0)
      · simp (maxSteps := 2000000) -implicitDefEqProofs only [zz, ↓reduceIte]
      · simp (maxSteps := 2000000) -implicitDefEqProofs only [zz, ↓reduceIte]
  have e5 : (s.d == 5) = false := by simp [h5]
  by_cases h6 : s.d = 6
  · have em : mayS s = (bareT s.t && belowI s.a 256 && (s.b == 0)) := by unfold mayS; rw [if_neg h1, if_neg h2, if_neg h3, if_neg h4, if_neg h5, if_pos h6]
    rw [em]
    have e6 : (s.d == 6) = true := by simp [h6]
    simp (maxSteps := 2000000) -implicitDefEqProofs only [zz, ↓reduceIte, e1, e2, e3, e4, e5, e6, hB]
    cases hb : bareT s.t
    · simp (maxSteps := 2000000) -implicitDefEqProofs only [zz, ↓reduceIte]
    · simp (maxSteps := 2000000) -implicitDefEqProofs only [zz, ↓reduceIte]
      refine acall_flat' (c_below s.a 256) rfl ?_
      try simp (maxSteps := 2000000) -implicitDefEqProofs only [zz, zE, evop, ev, ofVal, tget, tput, ok, V.isUndef, intBin, guardOf, Ch.on, xport, hget, structAt, Blk.width, resOf, resV, resVs, ↓reduceIte, reduceCtorEq, Nat.reduceLT, Nat.reduceEqDiff, Nat.reduceAdd, nilTest]
      cases ha : belowI s.a 256
      · simp (maxSteps := 2000000) -implicitDefEqProofs only [zz, ↓reduceIte]
      · simp (maxSteps := 2000000) -implicitDefEqProofs only [zz, ↓reduceIte]
  have e6 : (s.d == 6) = false := by simp [h6]
  have em : mayS s = ((s.d == 7) && bareT s.t && longI s.a && longI s.b) := by unfold mayS; rw [if_neg h1, if_neg h2, if_neg h3, if_neg h4, if_neg h5, if_neg h6]
  rw [em]
  simp (maxSteps := 2000000) -implicitDefEqProofs only [zz, ↓reduceIte, e1, e2, e3, e4, e5, e6, hB]
  cases h7 : (s.d == 7)
  · simp (maxSteps := 2000000) -implicitDefEqProofs only [zz, ↓reduceIte]
  · simp (maxSteps := 2000000) -implicitDefEqProofs only [zz, ↓reduceIte]
    cases hb : bareT s.t
    · simp (maxSteps := 2000000) -implicitDefEqProofs only [zz, ↓reduceIte]
    · simp (maxSteps := 2000000) -implicitDefEqProofs only [zz, ↓reduceIte]
      refine acall_flat' (c_long s.a) rfl ?_
      try simp (maxSteps := 2000000) -implicitDefEqProofs only [zz, zE, evop, ev, ofVal, tget, tput, ok, V.isUndef, guardOf, Ch.on, calleeOf, withArgs, xport, hget, structAt, Blk.width, resOf, resV, resVs, ↓reduceIte, reduceCtorEq, Nat.reduceLT, Nat.reduceEqDiff, Nat.reduceAdd]
      cases ha : longI s.a
      · simp (maxSteps := 2000000) -implicitDefEqProofs only [zz, ↓reduceIte]
      · simp (maxSteps := 2000000) -implicitDefEqProofs only [zz, ↓reduceIte]
        refine acall_flat' (c_long s.b) rfl ?_
        try simp (maxSteps := 2000000) -implicitDefEqProofs only [zz, evop, ev, tget, tput, ok, V.isUndef, Ch.on, xport, resOf, resV, resVs, ↓reduceIte, Nat.reduceLT, Nat.reduceEqDiff]

theorem c_CheckS (s : St) (hl : s.t.length ≤ 1000000) : CSpec Tryz.prog 102 [dS s] (.bool (!mayS s)) := by
  refine CSpec.of_awp envOf_ok hmix Tryz.func102 rfl (fun args w => Tryz.call102 args w) (by simp [Tryz.f102]) ?_
  simp only [Tryz.f102]
  simp (maxSteps := 2000000) -implicitDefEqProofs only [zz, zE, evop, ev, ofVal, tget, tput, ok, V.isUndef, initT, Ch.on, calleeOf, withArgs, hget, hput, V.cells, ↓reduceIte, Nat.reduceLT, Nat.reduceEqDiff, Nat.reduceAdd, Nat.reduceLeDiff, dS]
  refine acall_flat' (c_code_may s hl) rfl ?_
  try simp (maxSteps := 2000000) -implicitDefEqProofs only [zz, evop, ev, tget, tput, ok, V.isUndef, Ch.on, xport, resOf, resV, resVs, ↓reduceIte, Nat.reduceLT]

theorem c_IndexFunc_S (ns : List St) (f : Nat) (cap : List D) (p : St → Bool) (hl : ns.length ≤ 1000000) (hcap : cap.length ≤ 8) (hp : ∀ n ∈ ns, CSpec Tryz.prog f (dS n :: cap) (.bool (p n))) : CSpec Tryz.prog 159 [.vec (ns.map dS), .func (f, 0) cap] (.int .i64 (idxOf p ns)) := by
  refine CSpec.of_awp envOf_ok hmix Tryz.func159 rfl (fun args w => Tryz.call159 args w) (by simp [Tryz.f159]) ?_
  simp only [Tryz.f159]
  simp (maxSteps := 2000000) -implicitDefEqProofs only [zz, zE, evop, ev, ofVal, tget, tput, ok, V.isUndef, initT, Ch.on, sliceOf, lenOf, ↓reduceIte, reduceCtorEq, Nat.reduceLT, Int.reduceNeg]
  refine wloop_ind (σ := Nat) (fun i => ns.length - i) (fun i => [(8, .d (.int .i64 i)), (7, .d (.int .i64 ns.length)), (4, .d (.int .i64 0)), (0, .d (.vec (ns.map dS))), (1, .d (.func (f, 0) cap))]) (fun _ => []) (fun i => i ≤ ns.length ∧ ∀ j < i, ∀ x, ns[j]? = some x → p x = false) 0 ⟨Nat.zero_le _, fun j hj => by omega⟩ (Weak.sub (by simp [tget])) ?_
  intro i ⟨hi, hb⟩
  rcases Nat.lt_or_ge i ns.length with h | h
  · have hx : ns[i]? = some ns[i] := List.getElem?_eq_getElem h
    have h' : ((i : Int) < (ns.length : Int)) := by omega
    simp (maxSteps := 2000000) -implicitDefEqProofs only [zz, zE, evop, ev, tget, tput, ok, V.isUndef, intBin, Ch.on, calleeOf, withArgs, told, D.cells, loadD, ↓reduceIte, reduceCtorEq, Nat.reduceLT, Nat.reduceEqDiff, Nat.reduceAdd, Nat.reduceLeDiff, Int.reduceNeg, nilTest, dS, h', List.getElem?_map, hx, Option.map_some, Int.natCast_nonneg]
    refine acall_flat (ds := dS ns[i] :: cap) (by simp only [xports, xport, xports_ds cap 39 (by omega), dS]) (hp _ (List.getElem_mem h)) rfl ?_
    simp (maxSteps := 2000000) -implicitDefEqProofs only [zz, evop, ev, ofVal, tget, tput, ok, V.isUndef, intBin, Ch.on, told, xport, resOf, resV, resVs, ↓reduceIte, Nat.reduceLT, Nat.reduceEqDiff, Int.reduceNeg, nilTest]
    split
    · rename_i hpx
      simp [idxOf, findIdx_at h hb hpx]
    · rename_i hpx
      refine ⟨i + 1, ⟨h, fun j hj x hxj => ?_⟩, by omega, Weak.sub ?_⟩
      · rcases Nat.lt_or_ge j i with hji | hji
        · exact hb j hji x hxj
        · have : j = i := by omega
          subst this
          rw [hx] at hxj; cases hxj
          simpa using hpx
      · have hw : IntKind.i64.wrap ((i : Int) + 1) = (i : Int) + 1 := by rw [IntKind.wrap_i64]; omega
        simp [tget, hw]
  · have h' : ¬ ((i : Int) < (ns.length : Int)) := by omega
    simp (maxSteps := 2000000) -implicitDefEqProofs only [zz, evop, ev, ofVal, tget, tput, ok, V.isUndef, intBin, Ch.on, told, xport, resOf, resV, resVs, ↓reduceIte, Nat.reduceLT, Nat.reduceEqDiff, Int.reduceNeg, nilTest, h']
    have : ns.findIdx? p = none := by
      rw [List.findIdx?_eq_none_iff]
      intro x hx
      obtain ⟨j, hj, rfl⟩ := List.getElem_of_mem hx
      simpa using hb j (by omega) _ (List.getElem?_eq_getElem hj)
    simp [idxOf, this]

theorem c_ContainsFunc_S (ns : List St) (f : Nat) (cap : List D) (p : St → Bool) (hl : ns.length ≤ 1000000) (hcap : cap.length ≤ 8) (hp : ∀ n ∈ ns, CSpec Tryz.prog f (dS n :: cap) (.bool (p n))) : CSpec Tryz.prog 101 [.vec (ns.map dS), .func (f, 0) cap] (.bool (ns.any p)) := by
  refine CSpec.of_awp envOf_ok hmix Tryz.func101 rfl (fun args w => Tryz.call101 args w) (by simp [Tryz.f101]) ?_
  simp only [Tryz.f101]
  simp (maxSteps := 2000000) -implicitDefEqProofs only [zz, evop, ev, ofVal, tget, tput, ok, V.isUndef, initT, Ch.on, calleeOf, withArgs, ↓reduceIte, reduceCtorEq, Nat.reduceLT, Nat.reduceEqDiff]
  refine acall_flat' (c_IndexFunc_S ns f cap p hl hcap hp) rfl ?_
  try simp (maxSteps := 2000000) -implicitDefEqProofs only [zz, evop, ev, ofVal, tget, tput, ok, V.isUndef, intBin, Ch.on, xport, resOf, resV, resVs, ↓reduceIte, Nat.reduceLT, nilTest]
  rw [idxOf_nonneg]



end Go.Proofs.YtjhfpabldidlgaaGreat.AM

set_option linter.all false
set_option maxRecDepth 100000
set_option maxHeartbeats 4000000
namespace Go.Proofs.YtjhfpabldidlgaaGreat.AM
open Go Go.RowKit

def wellW : List St → Int × Bool
  | [] => (0, true)
  | s :: r =>
    if s.d = 4 ∧ s.a > (r.length : Int) then (0, false)
    else if s.d ≠ 7 then wellW r
    else if s.a + s.b > (r.length : Int) then (0, false)
    else (max (max (wellW (r.drop (s.a + s.b).toNat)).1 (1 + (wellW (r.take s.a.toNat)).1)) (1 + (wellW ((r.drop s.a.toNat).take s.b.toNat)).1),
      (wellW (r.take s.a.toNat)).2 && (wellW ((r.drop s.a.toNat).take s.b.toNat)).2 && (wellW (r.drop (s.a + s.b).toNat)).2)
termination_by l => l.length
decreasing_by all_goals (simp only [List.length_cons, List.length_drop, List.length_take]; omega)

def dpW (l : List St) : Int := if (wellW l).2 then (wellW l).1 else -1

theorem mayS_rng {s : St} (h : mayS s = true) : (s.d = 4 → 1 ≤ s.a ∧ s.a ≤ 24) ∧ (s.d = 7 → 1 ≤ s.a ∧ s.a ≤ 24 ∧ 1 ≤ s.b ∧ s.b ≤ 24) := by
  constructor
  · intro e
    unfold mayS longI at h
    rw [e] at h
    simp at h
    omega
  · intro e
    unfold mayS longI at h
    rw [e] at h
    simp at h
    omega

theorem wellW_rng : ∀ (n : Nat) (l : List St), l.length ≤ n → (∀ s ∈ l, mayS s = true) → 0 ≤ (wellW l).1 ∧ (wellW l).1 ≤ l.length
  | n, [], _, _ => by simp [wellW]
  | n + 1, s :: r, hn, hm => by
    have hs := mayS_rng (hm s (by simp))
    have hr : ∀ x ∈ r, mayS x = true := fun x hx => hm x (by simp [hx])
    simp only [List.length_cons] at hn
    rw [wellW]
    split
    · simp; omega
    · split
      · have := wellW_rng n r (by omega) hr
        simp only [List.length_cons]; omega
      · rename_i h7
        have h7' : s.d = 7 := by omega
        obtain ⟨a1, a2, b1, b2⟩ := hs.2 h7'
        split
        · simp; omega
        · have i1 := wellW_rng n (r.drop (s.a + s.b).toNat) (by simp; omega) (fun x hx => hr x (List.mem_of_mem_drop hx))
          have i2 := wellW_rng n (r.take s.a.toNat) (by simp; omega) (fun x hx => hr x (List.mem_of_mem_take hx))
          have i3 := wellW_rng n ((r.drop s.a.toNat).take s.b.toNat) (by simp; omega) (fun x hx => hr x (List.mem_of_mem_drop (List.mem_of_mem_take hx)))
          simp only [List.length_drop, List.length_take] at i1 i2 i3
          simp only [List.length_cons]
          omega

theorem okCells_S (l : List St) : ∀ e ∈ l.map dS, (match e with
    | D.agg cs => cs
    | x => [x]).length = 4 := by
  intro e he
  obtain ⟨x, _, rfl⟩ := List.mem_map.1 he
  rfl

theorem c_deep : ∀ (N : Nat) (l : List St), l.length ≤ N → l.length ≤ 1000000 → (∀ s ∈ l, mayS s = true) → CSpec Tryz.prog 104 [.vec (l.map dS)] (.int .i64 (dpW l)) := by
  intro N
  induction N with
  | zero =>
    intro l hN hl hm
    obtain rfl : l = [] := List.eq_nil_of_length_eq_zero (by omega)
    have e : dpW [] = 0 := by simp [dpW, wellW]
    rw [e]
    refine CSpec.of_awp envOf_ok hmix Tryz.func104 rfl (fun args w => Tryz.call104 args w) (by simp [Tryz.f104]) ?_
    simp only [Tryz.f104]
    simp (maxSteps := 2000000) -implicitDefEqProofs only [zz, evop, ev, ofVal, tput, ok, V.isUndef, initT, Ch.on, ↓reduceIte, Nat.reduceLT, Int.reduceNeg]
    refine wloop_ind (σ := Nat) (fun i => 0) (fun i => [(4, .d (.int .i64 0)), (3, .d (.int .i64 0)), (0, .d (.vec []))]) (fun _ => []) (fun i => True) 0 trivial (Weak.sub (by simp [tget])) ?_
    intro i hi
    have h' : ¬ ((0 : Int) < 0) := by omega
    simp (maxSteps := 2000000) -implicitDefEqProofs only [zz, zE, evop, ev, tget, tput, ok, V.isUndef, intBin, Ch.on, told, xport, sliceOf, lenOf, resOf, resV, resVs, ↓reduceIte, reduceCtorEq, Nat.reduceLT, Nat.reduceEqDiff, Int.reduceNeg, nilTest, h']
  | succ N ih =>
    intro l hN hl hm
    refine CSpec.of_awp envOf_ok hmix Tryz.func104 rfl (fun args w => Tryz.call104 args w) (by simp [Tryz.f104]) ?_
    simp only [Tryz.f104]
    simp (maxSteps := 2000000) -implicitDefEqProofs only [zz, evop, ev, ofVal, tput, ok, V.isUndef, initT, Ch.on, ↓reduceIte, Nat.reduceLT, Int.reduceNeg]
    refine wloop_ind (σ := Nat × Int) (fun s => l.length - s.1) (fun s => [(4, .d (.int .i64 s.1)), (3, .d (.int .i64 s.2)), (0, .d (.vec (l.map dS)))]) (fun _ => []) (fun s => s.1 ≤ l.length ∧ 0 ≤ s.2 ∧ s.2 ≤ 1000001 ∧ dpW l = if (wellW (l.drop s.1)).2 then max s.2 (wellW (l.drop s.1)).1 else -1) (0, 0) ⟨Nat.zero_le _, by omega, by omega, ?_⟩ (Weak.sub (by simp [tget])) ?_
    · have := wellW_rng _ l (Nat.le_refl _) hm
      show dpW l = if (wellW (l.drop 0)).2 then max 0 (wellW (l.drop 0)).1 else -1
      rw [List.drop_zero]; unfold dpW; split <;> omega
    · rintro ⟨i, out⟩ ⟨hi, h0, h1, hd⟩
      simp only at hi h0 h1 hd
      rcases Nat.lt_or_ge i l.length with hlt | hge
      · have hx : l[i]? = some l[i] := List.getElem?_eq_getElem hlt
        have h' : ((i : Int) < (l.length : Int)) := by omega
        have hw : IntKind.i64.wrap ((i : Int) + 1) = ((i + 1 : Nat) : Int) := by rw [wrap_in (by omega)]; omega
        have hms := mayS_rng (hm _ (List.getElem_mem hlt))
        have hdr : l.drop i = l[i] :: l.drop (i + 1) := List.drop_eq_getElem_cons hlt
        rw [hdr, wellW] at hd
        obtain ⟨r, hr⟩ : ∃ r, r = l.drop (i + 1) := ⟨_, rfl⟩
        have hrl : r.length = l.length - (i + 1) := by rw [hr]; simp
        rw [← hr] at hd
        obtain ⟨s, hs⟩ : ∃ s, s = l[i] := ⟨_, rfl⟩
        rw [← hs] at hd hms hx
        simp (maxSteps := 2000000) -implicitDefEqProofs only [zz, zE, evop, ev, tget, tput, ok, V.isUndef, intBin, Ch.on, told, sliceOf, lenOf, ↓reduceIte, reduceCtorEq, Nat.reduceLT, Nat.reduceEqDiff, Int.reduceNeg, nilTest, h']
        refine wdraw_plan [⟨[], false, [5, 16, 19, 20, 21, 22], [], false⟩, ⟨[], false, [5, 15, 19, 20, 21, 22], [0], false⟩, ⟨[0, 1], false, [5, 19, 20, 21, 22], [], false⟩, ⟨[0, 1, 2], false, [5, 19, 20, 21, 22], [], false⟩, ⟨[], false, [5, 15, 16, 17, 18, 19, 20, 21, 22], [0, 1, 2, 3], true⟩, ⟨[], false, [5, 15, 16, 17, 18, 19, 20, 21, 22], [0, 1, 2, 3, 4], true⟩, ⟨[5], false, [5, 15, 16, 17, 18, 19, 21, 22], [0, 1, 2, 3, 4], true⟩, ⟨[4, 5, 6], false, [5, 15, 16, 17, 18, 22], [0, 1, 2, 3], true⟩, ⟨[], false, [15, 16, 17, 18, 19, 20, 21, 22], [0, 1, 2, 3, 4, 5, 6, 7], false⟩, ⟨[0, 1, 2, 3, 8], true, [19, 20, 21, 22], [], false⟩, ⟨[0, 1, 2, 3, 4, 5, 6, 7, 8, 9], true, [], [], false⟩] (by decide) ?_
        have er : List.take ((l.length : Int) - ((i + 1 : Nat) : Int)).toNat (List.drop (i + 1) (List.map dS l)) = r.map dS := by
          rw [List.take_of_length_le (by simp; omega), hr, List.map_drop]
        simp (maxSteps := 2000000) -implicitDefEqProofs only [zz, zE, evop, ev, ofVal, tget, tput, ok, V.isUndef, intBin, guardOf, Ch.on, told, xport, hget, hput, V.cells, D.cells, V.isAgg, V.one, loadD, structAt, sliceOf, bound, Blk.width, lenOf, splice, D.over, resOf, resV, resVs, ↓reduceIte, reduceCtorEq, Nat.reduceLT, Nat.reduceEqDiff, Nat.reduceAdd, Nat.reduceLeDiff, Int.reduceNeg, nilTest, dS, hw, List.getElem?_map, hx, Option.map_some, Int.natCast_nonneg, er]
        refine ⟨⟨by omega, Int.le_refl _, okCells_S l⟩, ?_⟩
        have hmr : ∀ x ∈ r, mayS x = true := fun x hx => hm x (by rw [hr] at hx; exact List.mem_of_mem_drop hx)
        have hwr := wellW_rng _ r (Nat.le_refl _) hmr
        by_cases h7 : s.d = 7
        case neg =>
          have e7 : (s.d != 7) = true := by simpa using h7
          by_cases h4 : s.d = 4 ∧ s.a > (r.length : Int)
          · rw [if_pos h4] at hd
            have e4 : (s.d == 4) = true := by simp [h4.1]
            have hd' : dpW l = -1 := by rw [hd]; simp
            rw [hd']
            simp (maxSteps := 2000000) -implicitDefEqProofs only [↓reduceIte, Int.reduceNeg, e7, e4, h4.2]
          · rw [if_neg h4, if_pos h7] at hd
            by_cases h44 : s.d = 4
            · have e4 : (s.d == 4) = true := by simp [h44]
              have e5 : ¬ (s.a > (r.length : Int)) := fun h => h4 ⟨h44, h⟩
              simp (maxSteps := 2000000) -implicitDefEqProofs only [zz, ↓reduceIte, Int.reduceNeg, e7, e4, e5]
              exact ⟨(i + 1, out), ⟨hlt, h0, h1, by rw [hd, hr]⟩, by omega, Weak.trims 0 rfl (by simp [tget, V.lower]) (by simp)⟩
            · have e4 : (s.d == 4) = false := by simp [h44]
              simp (maxSteps := 2000000) -implicitDefEqProofs only [zz, ↓reduceIte, Int.reduceNeg, e7, e4]
              exact ⟨(i + 1, out), ⟨hlt, h0, h1, by rw [hd, hr]⟩, by omega, Weak.trims 0 rfl (by simp [tget, V.lower]) (by simp)⟩
        have e7 : (s.d != 7) = false := by simp [h7]
        obtain ⟨a1, a2, b1, b2⟩ := hms.2 h7
        have hab : IntKind.i64.wrap (s.a + s.b) = s.a + s.b := by rw [wrap_in (by omega)]
        have n4 : ¬ (s.d = 4 ∧ s.a > (r.length : Int)) := fun h => by omega
        have n7 : ¬ (s.d ≠ 7) := by omega
        rw [if_neg n4, if_neg n7] at hd
        by_cases hf : s.a + s.b > (r.length : Int)
        · rw [if_pos hf] at hd
          have hd' : dpW l = -1 := by rw [hd]; simp
          rw [hd']
          simp (maxSteps := 2000000) -implicitDefEqProofs only [zz, ↓reduceIte, Int.reduceNeg, e7, hab, hf]
        rw [if_neg hf] at hd
        simp (maxSteps := 2000000) -implicitDefEqProofs only [zz, ↓reduceIte, Int.reduceNeg, e7, hab, hf]
        refine wdraw_plan [⟨[], false, [45, 46, 49, 50, 51, 52, 53, 54, 55, 56, 57], [], false⟩, ⟨[], false, [44, 49, 50, 51, 52, 53, 54, 55, 56, 57], [0], false⟩, ⟨[1], false, [44, 49, 50, 51, 52, 53, 54, 55, 56, 57], [0], false⟩, ⟨[0, 1, 2], false, [49, 50, 51, 52, 53, 54, 55, 56, 57], [], false⟩, ⟨[0, 1, 2, 3], false, [49, 50, 51, 52, 53, 54, 55, 56, 57], [], false⟩, ⟨[], false, [44, 45, 46, 47, 48, 50, 51, 52, 53, 54, 55, 56], [0, 1, 2, 3, 4], false⟩, ⟨[], false, [44, 45, 46, 47, 48, 49, 52, 53, 54, 55, 56], [0, 1, 2, 3, 4, 5], false⟩, ⟨[6], false, [44, 45, 46, 47, 48, 49, 52, 53, 54, 55, 56], [0, 1, 2, 3, 4, 5], false⟩, ⟨[], false, [44, 45, 46, 47, 48, 49, 50, 51, 54, 55], [0, 1, 2, 3, 4, 5, 6, 7], false⟩, ⟨[8], false, [44, 45, 46, 47, 48, 49, 50, 51, 54, 55], [0, 1, 2, 3, 4, 5, 6, 7], false⟩, ⟨[], false, [44, 45, 46, 47, 48, 49, 50, 51, 52, 53], [0, 1, 2, 3, 4, 5, 6, 7, 8, 9], false⟩, ⟨[10], false, [44, 45, 46, 47, 48, 49, 50, 51, 52, 53], [0, 1, 2, 3, 4, 5, 6, 7, 8, 9], false⟩, ⟨[8, 9, 10, 11], false, [44, 45, 46, 47, 48, 49, 50, 51], [0, 1, 2, 3, 4, 5, 6, 7], false⟩, ⟨[5, 6, 7, 8, 9, 10, 11, 12], false, [44, 45, 46, 47, 48], [0, 1, 2, 3, 4], false⟩, ⟨[0, 1, 2, 3, 4, 5, 6, 7, 8, 9, 10, 11, 12, 13], true, [], [], false⟩, ⟨[0, 1, 2, 3, 4, 5, 6, 7, 8, 9, 10, 11, 12, 13, 14], true, [], [], false⟩, ⟨[0, 1, 2, 3, 4, 5, 6, 7, 8, 9, 10, 11, 12, 13, 14, 15], true, [], [], false⟩] (by decide) ?_
        obtain ⟨ra, hra⟩ : ∃ ra, ra = r.take s.a.toNat := ⟨_, rfl⟩
        obtain ⟨rb, hrb⟩ : ∃ rb, rb = (r.drop s.a.toNat).take s.b.toNat := ⟨_, rfl⟩
        obtain ⟨rc, hrc⟩ : ∃ rc, rc = r.drop (s.a + s.b).toNat := ⟨_, rfl⟩
        rw [← hra, ← hrb, ← hrc] at hd
        have la : (ra.length : Int) = s.a := by rw [hra]; simp; omega
        have lb : (rb.length : Int) = s.b := by rw [hrb]; simp; omega
        have e1 : List.take (s.a - 0).toNat (List.map dS r) = ra.map dS := by rw [hra, List.map_take, Int.sub_zero]
        have e2 : List.take (s.a + s.b - s.a).toNat (List.drop s.a.toNat (List.map dS r)) = rb.map dS := by
          rw [hrb, List.map_take, List.map_drop, show s.a + s.b - s.a = s.b by omega]
        have ma : ∀ x ∈ ra, mayS x = true := fun x hx => hmr x (by rw [hra] at hx; exact List.mem_of_mem_take hx)
        have mb : ∀ x ∈ rb, mayS x = true := fun x hx => hmr x (by rw [hrb] at hx; exact List.mem_of_mem_drop (List.mem_of_mem_take hx))
        have wa := wellW_rng _ ra (Nat.le_refl _) ma
        have wb := wellW_rng _ rb (Nat.le_refl _) mb
        have hwi : IntKind.i64.wrap ((i : Int) + (s.a + s.b)) = (i : Int) + (s.a + s.b) := by rw [wrap_in (by omega)]
        have hwj : IntKind.i64.wrap ((i : Int) + (s.a + s.b) + 1) = ((i + 1 + (s.a + s.b).toNat : Nat) : Int) := by rw [wrap_in (by omega)]; omega
        simp (maxSteps := 2000000) -implicitDefEqProofs only [zz, zE, evop, ev, ofVal, tget, tput, ok, V.isUndef, intBin, calleeOf, withArgs, hget, hput, V.cells, D.cells, V.isAgg, loadD, structAt, sliceOf, bound, Blk.width, lenOf, ↓reduceIte, reduceCtorEq, Nat.reduceLT, Nat.reduceEqDiff, Nat.reduceAdd, Nat.reduceLeDiff, Int.reduceNeg, hab, e1, e2]
        refine ⟨⟨Int.le_refl _, by omega, by omega, okCells_S r⟩, ?_⟩
        refine dcall_flat' (ih ra (by omega) (by omega) ma) rfl ?_
        try skip
        refine ⟨⟨by omega, by omega, by omega, okCells_S r⟩, ?_⟩
        refine acall_flat' (ih rb (by omega) (by omega) mb) rfl ?_
        try simp (maxSteps := 2000000) -implicitDefEqProofs only [zz, zE, evop, ev, ofVal, tget, tput, ok, V.isUndef, intBin, guardOf, Ch.on, told, xport, hget, structAt, Blk.width, resOf, resV, resVs, ↓reduceIte, reduceCtorEq, Nat.reduceLT, Nat.reduceEqDiff, Nat.reduceAdd, Int.reduceNeg, nilTest]
        have ja : (wellW ra).2 = true → dpW ra = (wellW ra).1 := fun h => by unfold dpW; rw [if_pos h]
        have jb : (wellW rb).2 = true → dpW rb = (wellW rb).1 := fun h => by unfold dpW; rw [if_pos h]
        have ja' : (wellW ra).2 = false → dpW ra = -1 := fun h => by unfold dpW; rw [if_neg (by simp [h])]
        have jb' : (wellW rb).2 = false → dpW rb = -1 := fun h => by unfold dpW; rw [if_neg (by simp [h])]
        cases ha : (wellW ra).2 with
        | false =>
          have n1 : dpW ra < 0 := by rw [ja' ha]; omega
          have hd' : dpW l = -1 := by rw [hd, ha]; simp
          rw [hd']
          simp (maxSteps := 2000000) -implicitDefEqProofs only [zz, ↓reduceIte, Int.reduceNeg, n1]
        | true =>
        have n1 : ¬ dpW ra < 0 := by rw [ja ha]; omega
        cases hb : (wellW rb).2 with
        | false =>
          have n2 : dpW rb < 0 := by rw [jb' hb]; omega
          have hd' : dpW l = -1 := by rw [hd, ha, hb]; simp
          rw [hd']
          simp (maxSteps := 2000000) -implicitDefEqProofs only [zz, ↓reduceIte, Int.reduceNeg, n1, n2]
        | true =>
        have n2 : ¬ dpW rb < 0 := by rw [jb hb]; omega
        have n1' : ¬ (wellW ra).1 < 0 := by omega
        have n2' : ¬ (wellW rb).1 < 0 := by omega
        obtain ⟨M, hM⟩ : ∃ M, M = if (wellW ra).1 < (wellW rb).1 then (wellW rb).1 else (wellW ra).1 := ⟨_, rfl⟩
        have hMr : 0 ≤ M ∧ M ≤ 1000000 := by rw [hM]; split <;> omega
        have hwm : IntKind.i64.wrap (1 + M) = 1 + M := by rw [wrap_in (by omega)]
        simp (maxSteps := 2000000) -implicitDefEqProofs only [zz, ↓reduceIte, Int.reduceNeg, n1', n2', ja ha, jb hb, hab, hwi, hwj, hM.symm, hwm]
        have hrc2 : rc = l.drop (i + 1 + (s.a + s.b).toNat) := by rw [hrc, hr, List.drop_drop]
        have hMx : 1 + M = max (1 + (wellW ra).1) (1 + (wellW rb).1) := by rw [hM]; split <;> omega
        refine ⟨(i + 1 + (s.a + s.b).toNat, if out < 1 + M then 1 + M else out), ⟨by simp only; omega, ?_, ?_, ?_⟩, by simp only; omega, ?_⟩
        · simp only; split <;> omega
        · simp only; split <;> omega
        · simp only
          rw [hd, ha, hb, ← hrc2]
          simp only [Bool.true_and]
          (repeat' split) <;> omega
        · exact Weak.trims 0 rfl (by simp [tget, V.lower]) (by simp)
      · have h' : ¬ ((i : Int) < (l.length : Int)) := by omega
        have : l.drop i = [] := List.drop_eq_nil_of_le hge
        rw [this] at hd
        simp only [wellW, if_true] at hd
        have e : dpW l = out := by rw [hd]; omega
        rw [e]
        simp (maxSteps := 2000000) -implicitDefEqProofs only [zz, zE, evop, ev, tget, tput, ok, V.isUndef, intBin, Ch.on, told, xport, sliceOf, lenOf, resOf, resV, resVs, ↓reduceIte, reduceCtorEq, Nat.reduceLT, Nat.reduceEqDiff, Int.reduceNeg, nilTest, h']

def codeC (c : List St) : Int := if c.length > 24 ∨ (c.any fun s => !mayS s) = true then 1 else if (wellW c).2 = false then 2 else if (wellW c).1 > 6 then 5 else 0

theorem c_code_Check (c : List St) (hl : c.length ≤ 1000000) (ht : ∀ s ∈ c, s.t.length ≤ 1000000) : CSpec Tryz.prog 52 [.vec (c.map dS)] (.int .i64 (codeC c)) := by
  refine CSpec.of_awp envOf_ok hmix Tryz.func52 rfl (fun args w => Tryz.call52 args w) (by simp [Tryz.f52]) ?_
  simp only [Tryz.f52]
  simp (maxSteps := 2000000) -implicitDefEqProofs only [zz, zE, evop, ev, ofVal, tget, tput, ok, V.isUndef, intBin, guardOf, initT, Ch.on, calleeOf, withArgs, told, xport, sliceOf, lenOf, resOf, resV, resVs, ↓reduceIte, reduceCtorEq, Nat.reduceLT, Nat.reduceEqDiff, nilTest]
  by_cases h1 : ((c.length : Int) > 24)
  · have e : codeC c = 1 := by unfold codeC; rw [if_pos (.inl (by omega))]
    rw [e]
    simp (maxSteps := 2000000) -implicitDefEqProofs only [zz, ↓reduceIte, h1]
  simp (maxSteps := 2000000) -implicitDefEqProofs only [zz, ↓reduceIte, h1]
  refine acall_flat' (c_ContainsFunc_S c _ [] (fun s => !mayS s) hl (by decide) (fun s hs => c_CheckS s (ht s hs))) rfl ?_
  try simp (maxSteps := 2000000) -implicitDefEqProofs only [zz, evop, ev, ofVal, tget, tput, ok, V.isUndef, Ch.on, calleeOf, withArgs, told, xport, resOf, resV, resVs, ↓reduceIte, reduceCtorEq, Nat.reduceLT, Nat.reduceEqDiff]
  cases h2 : c.any fun s => !mayS s with
  | true =>
    have e : codeC c = 1 := by unfold codeC; rw [if_pos (.inr h2)]
    rw [e]
    simp (maxSteps := 2000000) -implicitDefEqProofs only [↓reduceIte]
  | false =>
  have hm : ∀ s ∈ c, mayS s = true := fun s hs => by
    have := List.any_eq_false.1 h2 s hs
    simpa using this
  have hw := wellW_rng _ c (Nat.le_refl _) hm
  simp (maxSteps := 2000000) -implicitDefEqProofs only [zz, ↓reduceIte]
  refine acall_flat' (c_deep _ c (Nat.le_refl _) hl hm) rfl ?_
  try simp (maxSteps := 2000000) -implicitDefEqProofs only [zz, evop, ev, ofVal, tget, tput, ok, V.isUndef, intBin, Ch.on, told, xport, resOf, resV, resVs, ↓reduceIte, Nat.reduceLT, Nat.reduceEqDiff, nilTest]
  have e0 : codeC c = if (wellW c).2 = false then 2 else if (wellW c).1 > 6 then 5 else 0 := by
    unfold codeC; rw [if_neg]; rintro (h | h)
    · omega
    · rw [h2] at h; cases h
  cases h3 : (wellW c).2 with
  | false =>
    have e : codeC c = 2 := by rw [e0, if_pos h3]
    have ed : dpW c = -1 := by unfold dpW; rw [if_neg (by simp [h3])]
    rw [e, ed]
    have n1 : ((-1 : Int) < 0) := by omega
    simp (maxSteps := 2000000) -implicitDefEqProofs only [↓reduceIte, Int.reduceNeg, n1]
  | true =>
    have ed : dpW c = (wellW c).1 := by unfold dpW; rw [if_pos h3]
    have n1 : ¬ ((wellW c).1 < 0) := by omega
    rw [ed]
    by_cases h4 : (wellW c).1 > 6
    · have e : codeC c = 5 := by rw [e0, if_neg (by simp [h3]), if_pos h4]
      rw [e]
      simp (maxSteps := 2000000) -implicitDefEqProofs only [↓reduceIte, n1, h4]
    · have e : codeC c = 0 := by rw [e0, if_neg (by simp [h3]), if_neg h4]
      rw [e]
      simp (maxSteps := 2000000) -implicitDefEqProofs only [↓reduceIte, n1, h4]
end Go.Proofs.YtjhfpabldidlgaaGreat.AM

set_option linter.all false
namespace Go.Proofs.YtjhfpabldidlgaaGreat.AM
open Go Go.RowKit Go.Shelf

attribute [local go_sem] Oper.semAt_some

def upto {α : Type} (f : Nat → α) (k : Nat) : List α := (List.range k).map f
theorem upto_succ {α : Type} (f : Nat → α) (k : Nat) : upto f (k + 1) = upto f k ++ [f k] := by simp [upto, List.range_succ]
theorem upto_length {α : Type} (f : Nat → α) (k : Nat) : (upto f k).length = k := by simp [upto]

def bk (zs : List (Int × Int)) (len : Nat) (j : Nat) : Int × (Int × Int) := (((len : Int) - 1 - j), (zs[len - 1 - j]?).getD (0, 0))

set_option maxRecDepth 100000 in
set_option maxHeartbeats 2000000 in
theorem back1_in (F : Fence) (n : Nat) (hF : ∀ f, F.fn f) (hro : F.round = none) (hn : 1 ≤ n) (l Bs n₀ b off len cap : Nat) (zs : List (Int × Int)) (hreach : len ≤ 1000000) (hb : b < n₀) (J Jx : List (Int × (Int × Int)) → World → Prop)
    (hY : ∀ pre x W, J pre W → pre.length < len → YieldAt F (n - 1) Tryz.prog l #[.int .i64 x.1, .agg #[.int .i64 x.2.1, .int .i64 x.2.2]] W fun e W' =>
      (e = .returned (.bool true) ∧ J (pre ++ [x]) W' ∧ Below n₀ W W') ∨ (e = .returned (.bool false) ∧ Jx (pre ++ [x]) W'))
    (W : World) (hBs : W.cell? ⟨Bs, 0, none⟩ = some (.slice (some ⟨b, off, none⟩) len cap)) (hBn : Bs < n₀)
    (hc : ∀ j, j < len → W.cell? ⟨b, off + (j * 2), none⟩ = some (.int .i64 ((zs[j]?).getD (0, 0)).1) ∧ W.cell? ⟨b, off + (j * 2) + 1, none⟩ = some (.int .i64 ((zs[j]?).getD (0, 0)).2)) (h0 : J [] W) :
    CallsIn F n Tryz.prog 232 #[.func (.yield l) #[] #[], .pointer (some ⟨Bs, 0, none⟩)] W fun e W' => (∃ v, e = .returned v) ∧
      ((∃ ys, ys = upto (bk zs len) len ∧ J ys W') ∨ (∃ pre, (∃ k, k ≤ len ∧ pre = upto (bk zs len) k) ∧ Jx pre W')) := by
  refine callsIn_of_wp Tryz.func232 rfl (hF _) ?_ hro
  simp only [Tryz.ntmps232, List.size_toArray, List.length_cons, List.length_nil, Nat.reduceAdd, Nat.reduceSub, Array.replicate_succ, Array.replicate_zero, List.push_toArray, List.append_toArray, List.nil_append, List.cons_append]
  gi_wp2
  gi_loopw [3] (fun i wr => ∃ k : Nat, k ≤ len ∧ i = .int .i64 ((len : Int) - 1 - k) ∧ J (upto (bk zs len) k) wr ∧ Below n₀ W wr)
    (fun i _ => (intOf i + 1).toNat)
  case atStart => exact ⟨0, Nat.zero_le _, by simp, h0, Below.refl _ _⟩
  case round =>
    obtain ⟨k, hk, rfl, hJs, hnx⟩ := hrel
    have hBx := (hnx.cell (p := ⟨Bs, 0, none⟩) hBn).trans hBs
    by_cases hlt : k < len
    · obtain ⟨fn, tmps, assign, body, hy, hR⟩ := hY _ (bk zs len k) wr hJs (by rw [upto_length]; exact hlt)
      obtain ⟨c1, c2⟩ := hc (len - 1 - k) (by omega)
      have d1 := (hnx.cell (p := ⟨b, off + ((len - 1 - k) * 2), none⟩) hb).trans c1
      have d2 := (hnx.cell (p := ⟨b, off + ((len - 1 - k) * 2) + 1, none⟩) hb).trans c2
      have hix : (len : Int) - 1 - k = ((len - 1 - k : Nat) : Int) := by omega
      dsimp only [bk] at hy
      generalize hj : len - 1 - k = j at *
      rw [hix] at hy ⊢
      gi_wp2
      refine hR.mono ?_
      rintro e W3 (⟨rfl, hJ3, hk3⟩ | ⟨rfl, hJx3⟩)
      · gi_wp2
        go_roundw
        case rel => exact ⟨k + 1, by omega, by simp <;> omega, by rw [upto_succ]; exact hJ3, hnx.trans hk3⟩
        case measure => simp [intOf] <;> omega
      · gi_wp2
        refine bodyPost_ret (results_none rfl _ _ _) rfl ?_
        exact ⟨⟨_, rfl⟩, .inr ⟨_, ⟨k + 1, by omega, (upto_succ _ _).symm⟩, hJx3⟩⟩
    · obtain rfl : k = len := by omega
      have hix : (k : Int) - 1 - k = -1 := by omega
      rw [hix]
      gi_wp2
      go_end0
      exact ⟨⟨_, rfl⟩, .inl ⟨_, rfl, hJs⟩⟩

set_option maxRecDepth 100000 in
set_option maxHeartbeats 1000000 in
theorem back1_nil_in (F : Fence) (n : Nat) (hF : ∀ f, F.fn f) (hro : F.round = none) (l Bs : Nat) (a : Option Addr) (cap : Nat) (J : List (Int × (Int × Int)) → World → Prop) (W : World) (hBs : W.cell? ⟨Bs, 0, none⟩ = some (.slice a 0 cap)) (h0 : J [] W) :
    CallsIn F n Tryz.prog 232 #[.func (.yield l) #[] #[], .pointer (some ⟨Bs, 0, none⟩)] W fun e W' => (∃ v, e = .returned v) ∧ J [] W' := by
  refine callsIn_of_wp Tryz.func232 rfl (hF _) ?_ hro
  simp only [Tryz.ntmps232, List.size_toArray, List.length_cons, List.length_nil, Nat.reduceAdd, Nat.reduceSub, Array.replicate_succ, Array.replicate_zero, List.push_toArray, List.append_toArray, List.nil_append, List.cons_append]
  gi_wp2
  gi_loopw [3] (fun i wr => i = .int .i64 (-1) ∧ J [] wr) (fun _ _ => 0)
  case atStart => exact ⟨by simp, h0⟩
  case round =>
    obtain ⟨rfl, hJs⟩ := hrel
    gi_wp2
    go_end0
    exact ⟨⟨_, rfl⟩, hJs⟩

set_option maxHeartbeats 1000000 in
theorem back_in (F : Fence) (n : Nat) (hF : ∀ f, F.fn f) (hro : F.round = none) (a : Option Addr) (len cap : Nat) (w : World) :
    CallsIn F n Tryz.prog 212 #[.slice a len cap] w fun e w' => e = .returned (.func (.func 232) #[] #[.pointer (some ⟨w.heap.size, 0, none⟩)]) ∧ w' = w.alloc (.cells #[.slice a len cap] 29) := by
  refine callsIn_of_wp Tryz.func212 rfl (hF _) ?_ hro
  simp only [Tryz.ntmps212, List.size_toArray, List.length_cons, List.length_nil, Nat.reduceAdd, Nat.reduceSub, Array.replicate_succ, Array.replicate_zero, List.push_toArray, List.append_toArray, List.nil_append, List.cons_append]
  gi_wp2
  go_ret
  exact ⟨rfl, rfl⟩

def Wr (W : World) (n₀ : Nat) (a : Option Addr) (zs : List (Int × Int)) : Prop :=
  zs = [] ∨ ∃ b off, a = some ⟨b, off, none⟩ ∧ b < n₀ ∧ ∀ j, j < zs.length → W.cell? ⟨b, off + (j * 2), none⟩ = some (.int .i64 ((zs[j]?).getD (0, 0)).1) ∧ W.cell? ⟨b, off + (j * 2) + 1, none⟩ = some (.int .i64 ((zs[j]?).getD (0, 0)).2)
theorem Wr.below {A B : World} {n₀ : Nat} {a : Option Addr} {zs : List (Int × Int)} (h : Below n₀ A B) : Wr A n₀ a zs → Wr B n₀ a zs
  | .inl e => .inl e
  | .inr ⟨b, off, e, hb, hc⟩ => .inr ⟨b, off, e, hb, fun j hj => ⟨(h.cell (p := ⟨b, off + (j * 2), none⟩) hb).trans (hc j hj).1, (h.cell (p := ⟨b, off + (j * 2) + 1, none⟩) hb).trans (hc j hj).2⟩⟩

theorem back_stops (F : Fence) (n : Nat) (hF : ∀ f, F.fn f) (hro : F.round = none) (hn : 1 ≤ n) (Bs n₀ : Nat) (a : Option Addr) (cap : Nat) (zs : List (Int × Int)) (hreach : zs.length ≤ 1000000) (w : World) (hBs : Bs < n₀) (hn₀ : n₀ ≤ w.heap.size)
    (hc : w.cell? ⟨Bs, 0, none⟩ = some (.slice a zs.length cap)) (hI : Wr w n₀ a zs) :
    SeqStopsK F n Tryz.prog 232 #[.pointer (some ⟨Bs, 0, none⟩)] (fun x : Int × (Int × Int) => #[Value.int .i64 x.1, .agg #[.int .i64 x.2.1, .int .i64 x.2.2]]) (Below n₀) (fun ys => ys = upto (bk zs zs.length) zs.length)
      (fun pre => ∃ k, k ≤ zs.length ∧ pre = upto (bk zs zs.length) k) zs.length w := fun l J Jx W hW _ _ hY h0 => by
  have hc' := (hW.cell (p := ⟨Bs, 0, none⟩) (by show Bs < w.heap.size; omega)).trans hc
  rcases hI.below (hW.mono hn₀) with rfl | ⟨b, off, rfl, hb, hcs⟩
  · exact (back1_nil_in F n hF hro l Bs a cap J W hc' h0).mono fun e W' ⟨he, hj⟩ => ⟨he, .inl ⟨_, rfl, hj⟩⟩
  · exact back1_in F n hF hro hn l Bs n₀ b off zs.length cap zs hreach hb J Jx hY W hc' hBs hcs h0

end Go.Proofs.YtjhfpabldidlgaaGreat.AM

set_option linter.all false
namespace Go.Proofs.YtjhfpabldidlgaaGreat.AM
open Go Go.RowKit Go.Shelf

attribute [local go_sem] Oper.semAt_some

def getW (zs : List (Int × Int)) (c : Int) : Int × Bool := match zs.reverse.find? (fun p => p.1 == c) with
  | some p => (p.2, true)
  | none => (0, false)

theorem getW_none {zs : List (Int × Int)} {c : Int} (h : ∀ p ∈ upto (bk zs zs.length) zs.length, p.2.1 ≠ c) : getW zs c = (0, false) := by
  unfold getW
  have : zs.reverse.find? (fun p => p.1 == c) = none := by
    rw [List.find?_eq_none]
    intro p hp
    obtain ⟨i, hi, rfl⟩ := List.getElem_of_mem hp
    simp only [List.length_reverse] at hi
    have := h (bk zs zs.length i) (by simp only [upto, List.mem_map, List.mem_range]; exact ⟨i, hi, rfl⟩)
    have e : (bk zs zs.length i).2 = zs.reverse[i] := by
      simp only [bk, List.getElem_reverse]
      rw [List.getElem?_eq_getElem (by omega)]; rfl
    rw [e] at this
    simpa using this
  rw [this]

theorem getW_some {zs : List (Int × Int)} {c : Int} {k : Nat} (hk : k < zs.length) (h : ∀ p ∈ upto (bk zs zs.length) k, p.2.1 ≠ c) (he : (bk zs zs.length k).2.1 = c) : getW zs c = ((bk zs zs.length k).2.2, true) := by
  unfold getW
  have e : ∀ i (hi : i < zs.length), (bk zs zs.length i).2 = zs.reverse[i]'(by simpa using hi) := by
    intro i hi
    simp only [bk, List.getElem_reverse]
    rw [List.getElem?_eq_getElem (by omega)]; rfl
  have : zs.reverse.find? (fun p => p.1 == c) = some (bk zs zs.length k).2 := by
    rw [List.find?_eq_some_iff_getElem]
    refine ⟨by simpa using he, k, by simpa using hk, (e k hk).symm, fun j hj => ?_⟩
    have := h (bk zs zs.length j) (by simp only [upto, List.mem_map, List.mem_range]; exact ⟨j, hj, rfl⟩)
    rw [e j (by omega)] at this
    simpa using this
  rw [this]

theorem right_in (n : Nat) (L : Lg) (v : Value) (W : World) (hv : RD (fun B => B < W.heap.size) W (dLg L) v) :
    CallsIn Fence.wide n Tryz.prog 127 #[v] W fun e W' => e = .returned (.bool (logR L)) ∧ Below W.heap.size W W' := by
  refine callsIn_wide.2 ?_
  refine ((c_W_Right L).2 (fun B => B < W.heap.size) W [v] (fun _ h => h) rfl (fun i d c hd hc => ?_)).mono ?_
  · cases i with
    | zero => simp at hd hc; subst hd; subst hc; exact hv
    | succ i => simp at hd
  · rintro e W' ⟨c, S', rfl, hr, _, hk⟩
    cases hr
    exact ⟨rfl, hk.os, hk.tape, hk.output, hk.size, fun B hB => hk.block B hB id⟩

theorem rd_below {x : D} {v : Value} {W W' : World} (h : RD (fun B => B < W.heap.size) W x v) (hb : Below W.heap.size W W') : RD (fun B => B < W'.heap.size) W' x v :=
  h.keep (fun B _ hB => ⟨Nat.lt_of_lt_of_le hB hb.size, hb.block B hB⟩)


def BoxN (W : World) (B : Nat) (t : TypeId) (cs : Array Value) : Prop := W.heap[B]? = some (.cells cs t)
theorem BoxN.new (W : World) (t : TypeId) (cs : Array Value) : BoxN (W.alloc (.cells cs t)) W.heap.size t cs := World.alloc_heap_new W _
theorem BoxN.alloc {W : World} {B t cs} (h : BoxN W B t cs) (o : Obj) : BoxN (W.alloc o) B t cs := (Below.heap_alloc W o B (Array.getElem?_eq_some_iff.1 h).1).trans h
theorem BoxN.below {W W' : World} {n₀ B t cs} (h : BoxN W B t cs) (hb : Below n₀ W W') (hB : B < n₀) : BoxN W' B t cs := (hb.block B hB).trans h
theorem BoxN.cell {W : World} {B t cs} (h : BoxN W B t cs) {i : Nat} {v : Value} (hv : cs[i]? = some v) : W.cell? ⟨B, i, none⟩ = some v := by
  unfold BoxN at h; simp [World.cell?, h, hv]
theorem BoxN.frozen {W : World} {B t cs} (h : BoxN W B t cs) (i : Nat) : W.frozen? ⟨B, i, none⟩ = false := by
  unfold BoxN at h; simp [World.frozen?, h]
theorem BoxN.lt {W : World} {B t cs} (h : BoxN W B t cs) : B < W.heap.size := (Array.getElem?_eq_some_iff.1 h).1


theorem Wr.mono {A : World} {n m : Nat} {a : Option Addr} {zs : List (Int × Int)} (hm : n ≤ m) : Wr A n a zs → Wr A m a zs
  | .inl e => .inl e
  | .inr ⟨b, off, e, hb, hc⟩ => .inr ⟨b, off, e, by omega, hc⟩

theorem boxN_own {β : Type} (B : Nat) (t : TypeId) (f : β → Array Value) : Own (fun s W => BoxN W B t (f s)) := fun s X Y row hs hg hrow =>
  (hg.block B hs.lt (fun e' => by obtain ⟨o, ho, hc⟩ := hrow B e'.symm; rw [show X.heap[B]? = _ from hs] at ho; cases ho; cases hc)).trans hs

theorem two_stores {w W : World} {B t t' : Nat} {x x' y y' : Value} (h4 : BoxN W B t #[x]) (h5 : BoxN W (B + 1) t' #[y]) (hB : w.heap.size ≤ B) (hb : Below w.heap.size w W) :
    ((W.setCell ⟨B, 0, none⟩ x').setCell ⟨B + 1, 0, none⟩ y').cell? ⟨B, 0, none⟩ = some x' ∧ ((W.setCell ⟨B, 0, none⟩ x').setCell ⟨B + 1, 0, none⟩ y').cell? ⟨B + 1, 0, none⟩ = some y' ∧ Below w.heap.size w ((W.setCell ⟨B, 0, none⟩ x').setCell ⟨B + 1, 0, none⟩ y') := by
  have e4 := Boxed.set x' (W := W) (B := B) (t := t) (v := x) h4
  have e5 := Boxed.other (W := W) (B := B + 1) (B' := B) (t := t') (v := y) h5 (by omega) x'
  have e4' := Boxed.other (B := B) (B' := B + 1) e4 (by omega) y'
  have e5' := Boxed.set y' e5
  exact ⟨e4'.cell, e5'.cell, (hb.setCell (p := ⟨B, 0, none⟩) hB x').setCell (p := ⟨B + 1, 0, none⟩) (by show w.heap.size ≤ B + 1; omega) y'⟩

set_option maxRecDepth 100000 in
set_option maxHeartbeats 4000000 in
theorem get_no (n : Nat) (hn : 3 ≤ n) (L : Lg) (a a2 : Option Addr) (cap n2 cap2 : Nat) (c : Int) (w : World) (hlog : logR L = false)
    (hv : RD (fun B => B < w.heap.size) w (dLg L) (.agg #[.slice a L.1.length cap, .slice a2 n2 cap2])) :
    CallsIn Fence.wide n Tryz.prog 168 #[.agg #[.slice a L.1.length cap, .slice a2 n2 cap2], .int .i64 c] w fun e W' =>
      e = .returned (.tuple #[.int .i64 0, .bool false]) ∧ Below w.heap.size w W' := by
  have hF : ∀ f, Fence.wide.fn f := fun _ => trivial
  have hro : Fence.wide.round = none := rfl
  have h1 : 1 ≤ n := by omega
  refine callsIn_of_wp_marks Tryz.func168 rfl (hF _) ?_ hro
  simp only [Tryz.ntmps168, List.size_toArray, List.length_cons, List.length_nil, Nat.reduceAdd, Nat.reduceSub, Array.replicate_succ, Array.replicate_zero, List.push_toArray, List.append_toArray, List.nil_append, List.cons_append]
  have hbx : Below w.heap.size w ((((w.alloc (.cells #[.slice a L.1.length cap, .slice a2 n2 cap2] 31)).alloc (.cells #[.int .i64 c] 3)).alloc (.cells #[.int .i64 0] 3)).alloc (.cells #[.bool false] 4)) :=
    ((((Below.refl _ w).alloc (Nat.le_refl _) _).alloc (by simp) _).alloc (by simp; omega) _).alloc (by simp; omega) _
  have k2 := (((BoxN.new w 31 #[.slice a L.1.length cap, .slice a2 n2 cap2]).alloc (.cells #[.int .i64 c] 3)).alloc (.cells #[.int .i64 0] 3)).alloc (.cells #[.bool false] 4)
  have k3 := (((BoxN.new (w.alloc (.cells #[.slice a L.1.length cap, .slice a2 n2 cap2] 31)) 3 #[.int .i64 c]).alloc (.cells #[.int .i64 0] 3)).alloc (.cells #[.bool false] 4))
  have k4 := ((BoxN.new ((w.alloc (.cells #[.slice a L.1.length cap, .slice a2 n2 cap2] 31)).alloc (.cells #[.int .i64 c] 3)) 3 #[.int .i64 0]).alloc (.cells #[.bool false] 4))
  have k5 := BoxN.new (((w.alloc (.cells #[.slice a L.1.length cap, .slice a2 n2 cap2] 31)).alloc (.cells #[.int .i64 c] 3)).alloc (.cells #[.int .i64 0] 3)) 4 #[.bool false]
  simp only [World.size_alloc] at k3 k4 k5
  have hRt := fun W h => right_in (n - 1) L (.agg #[.slice a L.1.length cap, .slice a2 n2 cap2]) W h
  rw [hlog] at hRt
  have c20' : ∀ W, BoxN W w.heap.size 31 #[.slice a L.1.length cap, .slice a2 n2 cap2] → W.cell? ⟨w.heap.size, 0, none⟩ = some (.slice a L.1.length cap) := fun W h => h.cell rfl
  have c21' : ∀ W, BoxN W w.heap.size 31 #[.slice a L.1.length cap, .slice a2 n2 cap2] → W.cell? ⟨w.heap.size, 1, none⟩ = some (.slice a2 n2 cap2) := fun W h => h.cell rfl
  have c30' : ∀ W, BoxN W (w.heap.size + 1) 3 #[.int .i64 c] → W.cell? ⟨w.heap.size + 1, 0, none⟩ = some (.int .i64 c) := fun W h => h.cell rfl
  have c40' : ∀ W, BoxN W (w.heap.size + 1 + 1) 3 #[.int .i64 0] → W.cell? ⟨w.heap.size + 1 + 1, 0, none⟩ = some (.int .i64 0) := fun W h => h.cell rfl
  have c50' : ∀ W, BoxN W (w.heap.size + 1 + 1 + 1) 4 #[.bool false] → W.cell? ⟨w.heap.size + 1 + 1 + 1, 0, none⟩ = some (.bool false) := fun W h => h.cell rfl
  gi_wp2_with (first | (gi_at_call 127; refine (hRt _ (rd_below hv hbx)).mono ?_; rintro e w1 ⟨rfl, hb1⟩; have q2 := k2.below hb1 k2.lt; have q3 := k3.below hb1 k3.lt; have q4 := k4.below hb1 k4.lt; have q5 := k5.below hb1 k5.lt; have hbw := hbx.trans (hb1.mono hbx.size); clear hb1 hbx k2 k3 k4 k5 hRt; have c20 := c20' _ q2; have c21 := c21' _ q2; have c30 := c30' _ q3; have c40 := c40' _ q4; have c50 := c50' _ q5; have f4 := q4.frozen 0; have f5 := q5.frozen 0) | (gi_at_call 212; refine (back_in Fence.wide (n - 1) hF hro _ _ _ _).mono ?_; rintro e w' ⟨rfl, rfl⟩))
  obtain ⟨e1, e2, e3⟩ := two_stores (w := w) (x' := .int .i64 0) (y' := .bool false) q4 q5 (by omega) hbw
  refine ⟨.tuple #[.int .i64 0, .bool false], ?_, rfl, e3⟩
  simp [results, Tryz.f168, go_sem, e1, e2]

set_option maxRecDepth 100000 in
set_option maxHeartbeats 4000000 in
theorem get_yes (n : Nat) (hn : 3 ≤ n) (L : Lg) (a a2 : Option Addr) (cap n2 cap2 : Nat) (c : Int) (w : World) (hlog : logR L = true) (hl : L.1.length ≤ 1000000)
    (hv : RD (fun B => B < w.heap.size) w (dLg L) (.agg #[.slice a L.1.length cap, .slice a2 n2 cap2])) (hI : Wr w w.heap.size a L.1) :
    CallsIn Fence.wide n Tryz.prog 168 #[.agg #[.slice a L.1.length cap, .slice a2 n2 cap2], .int .i64 c] w fun e W' =>
      e = .returned (.tuple #[.int .i64 (getW L.1 c).1, .bool (getW L.1 c).2]) ∧ Below w.heap.size w W' := by
  have hF : ∀ f, Fence.wide.fn f := fun _ => trivial
  have hro : Fence.wide.round = none := rfl
  have h1 : 1 ≤ n := by omega
  refine callsIn_of_wp_marks Tryz.func168 rfl (hF _) ?_ hro
  simp only [Tryz.ntmps168, List.size_toArray, List.length_cons, List.length_nil, Nat.reduceAdd, Nat.reduceSub, Array.replicate_succ, Array.replicate_zero, List.push_toArray, List.append_toArray, List.nil_append, List.cons_append]
  have hbx : Below w.heap.size w ((((w.alloc (.cells #[.slice a L.1.length cap, .slice a2 n2 cap2] 31)).alloc (.cells #[.int .i64 c] 3)).alloc (.cells #[.int .i64 0] 3)).alloc (.cells #[.bool false] 4)) :=
    ((((Below.refl _ w).alloc (Nat.le_refl _) _).alloc (by simp) _).alloc (by simp; omega) _).alloc (by simp; omega) _
  have k2 := (((BoxN.new w 31 #[.slice a L.1.length cap, .slice a2 n2 cap2]).alloc (.cells #[.int .i64 c] 3)).alloc (.cells #[.int .i64 0] 3)).alloc (.cells #[.bool false] 4)
  have k3 := (((BoxN.new (w.alloc (.cells #[.slice a L.1.length cap, .slice a2 n2 cap2] 31)) 3 #[.int .i64 c]).alloc (.cells #[.int .i64 0] 3)).alloc (.cells #[.bool false] 4))
  have k4 := ((BoxN.new ((w.alloc (.cells #[.slice a L.1.length cap, .slice a2 n2 cap2] 31)).alloc (.cells #[.int .i64 c] 3)) 3 #[.int .i64 0]).alloc (.cells #[.bool false] 4))
  have k5 := BoxN.new (((w.alloc (.cells #[.slice a L.1.length cap, .slice a2 n2 cap2] 31)).alloc (.cells #[.int .i64 c] 3)).alloc (.cells #[.int .i64 0] 3)) 4 #[.bool false]
  simp only [World.size_alloc] at k3 k4 k5
  have hRt := fun W h => right_in (n - 1) L (.agg #[.slice a L.1.length cap, .slice a2 n2 cap2]) W h
  rw [hlog] at hRt
  have c20' : ∀ W, BoxN W w.heap.size 31 #[.slice a L.1.length cap, .slice a2 n2 cap2] → W.cell? ⟨w.heap.size, 0, none⟩ = some (.slice a L.1.length cap) := fun W h => h.cell rfl
  have c21' : ∀ W, BoxN W w.heap.size 31 #[.slice a L.1.length cap, .slice a2 n2 cap2] → W.cell? ⟨w.heap.size, 1, none⟩ = some (.slice a2 n2 cap2) := fun W h => h.cell rfl
  have c30' : ∀ W, BoxN W (w.heap.size + 1) 3 #[.int .i64 c] → W.cell? ⟨w.heap.size + 1, 0, none⟩ = some (.int .i64 c) := fun W h => h.cell rfl
  have c40' : ∀ W, BoxN W (w.heap.size + 1 + 1) 3 #[.int .i64 0] → W.cell? ⟨w.heap.size + 1 + 1, 0, none⟩ = some (.int .i64 0) := fun W h => h.cell rfl
  have c50' : ∀ W, BoxN W (w.heap.size + 1 + 1 + 1) 4 #[.bool false] → W.cell? ⟨w.heap.size + 1 + 1 + 1, 0, none⟩ = some (.bool false) := fun W h => h.cell rfl
  gi_wp2_with (first | (gi_at_call 127; refine (hRt _ (rd_below hv hbx)).mono ?_; rintro e w1 ⟨rfl, hb1⟩; have q2 := k2.below hb1 k2.lt; have q3 := k3.below hb1 k3.lt; have q4 := k4.below hb1 k4.lt; have q5 := k5.below hb1 k5.lt; have hbw := hbx.trans (hb1.mono hbx.size); clear hb1 hbx k2 k3 k4 k5 hRt; have c20 := c20' _ q2; have c21 := c21' _ q2; have c30 := c30' _ q3; have c40 := c40' _ q4; have c50 := c50' _ q5; have f4 := q4.frozen 0; have f5 := q5.frozen 0) | (gi_at_call 212; refine (back_in Fence.wide (n - 1) hF hro _ _ _ _).mono ?_; rintro e w' ⟨rfl, rfl⟩))
  clear c20' c21' c30' c40' c50'
  have hBn := BoxN.new w1 29 #[.slice a L.1.length cap]
  have hbn : Below w1.heap.size w1 (w1.alloc (.cells #[.slice a L.1.length cap] 29)) := (Below.refl _ w1).alloc (Nat.le_refl _) _
  have hsz : (w1.alloc (.cells #[.slice a L.1.length cap] 29)).heap.size = w1.heap.size + 1 := World.size_alloc _ _
  have r3 := q3.below hbn q3.lt
  have r4 := q4.below hbn q4.lt
  have r5 := q5.below hbn q5.lt
  have hbW := hbw.trans (hbn.mono hbw.size)
  have hI4 : Wr (w1.alloc (.cells #[.slice a L.1.length cap] 29)) (w1.alloc (.cells #[.slice a L.1.length cap] 29)).heap.size a L.1 := (hI.below hbW).mono hbW.size
  have hw1 := hbw.size
  have l5 := q5.lt
  clear q2 q3 q4 q5 c20 c21 c30 c40 c50 f4 f5 hbn
  generalize hW4 : w1.alloc (.cells #[.slice a L.1.length cap] 29) = W4 at *
  clear hW4
  refine wpIn_rangeFunc_ownH hro h1 (gf := 232) (lb := #[.pointer (some ⟨w1.heap.size, 0, none⟩)]) rfl (hF _) (enters_of Tryz.func232 (by kernel_rfl) rfl)
    (back_stops Fence.wide (n - 1) hF hro (by omega) w1.heap.size W4.heap.size a cap L.1 hl W4 (by omega) (Nat.le_refl _) (hBn.cell rfl) hI4) belowK_t (belowK_b (Nat.le_refl _)) (Below.refl _ _) (fun _ => rfl)
    (fun pre W => (∀ p ∈ pre, p.2.1 ≠ c) ∧ Below W4.heap.size W4 W)
    (fun j pre W => (j = .ret ∧ (∃ ini last, pre = ini ++ [last] ∧ (∀ p ∈ ini, p.2.1 ≠ c) ∧ last.2.1 = c ∧ W.cell? ⟨w.heap.size + 1 + 1, 0, none⟩ = some (.int .i64 last.2.2)) ∧ W.cell? ⟨w.heap.size + 1 + 1 + 1, 0, none⟩ = some (.bool true)) ∧ Below w.heap.size w W)
    (OwnFrom.and (ownFrom_pure _ _) (ownFrom_below (Nat.le_refl _) (Nat.le_refl _)))
    (fun j => OwnFrom.and (Own.from (fun s A B row hs hg hr => by obtain ⟨hc, ⟨ini, last, e1, e2, e3, e4⟩, e5⟩ := hs; exact ⟨hc, ⟨ini, last, e1, e2, e3, cell_kept e4 hg hr⟩, cell_kept e5 hg hr⟩) _) (ownFrom_below (Nat.le_refl _) (by omega)))
    ⟨by simp, Below.refl _ _⟩
    (fun x a' W => ∃ Bx, W4.heap.size ≤ Bx ∧ BoxN W Bx 109 #[.int .i64 x.2.1, .int .i64 x.2.2] ∧ a' = { tmps := #[.agg #[.slice a L.1.length cap, .slice a2 n2 cap2], .int .i64 c,
          .pointer (some ⟨w.heap.size, 0, none⟩), .pointer (some ⟨w.heap.size + 1, 0, none⟩), .pointer (some ⟨w.heap.size + 1 + 1, 0, none⟩), .pointer (some ⟨w.heap.size + 1 + 1 + 1, 0, none⟩), undef, .pointer (some ⟨Bx, 0, none⟩),
          .agg #[.slice a L.1.length cap, .slice a2 n2 cap2], .bool true, .bool false, .pointer (some ⟨w.heap.size, 0, none⟩), .slice a L.1.length cap,
          .func (.func 232) #[] #[.pointer (some ⟨w1.heap.size, 0, none⟩)], .int .i64 x.1, .agg #[.int .i64 x.2.1, .int .i64 x.2.2], undef, undef, undef, undef, undef, undef], defers := [] })
    (fun x a' => fun s A B row hs hg hr => by obtain ⟨Bx, g1, g2, g3⟩ := hs; exact ⟨Bx, g1, boxN_own Bx _ (fun _ : Unit => #[.int .i64 x.2.1, .int .i64 x.2.2]) () A B row g2 hg (fun r e => (hr r e).2), g3⟩) ?assign ?body ?done ?stop
  case assign =>
    rintro l pre x W K ⟨hi, hB⟩ hK
    gi_wp2
    exact hK _ _ ((KeepsOthers.alloc _ _).from _) ((Below.refl _ W).alloc hB.size _) ⟨hi, hB.alloc hB.size _⟩ ⟨W.heap.size, hB.size, BoxN.new W _ _, rfl⟩
  case body =>
    rintro l pre x a' W hl' ⟨r, hr⟩ ⟨hi, hB⟩ ⟨Bx, hBx, bX, rfl⟩ hlt
    have s3 := r3.below hB r3.lt
    have s4 := r4.below hB r4.lt
    have s5 := r5.below hB r5.lt
    have c0 : W.cell? ⟨Bx, 0, none⟩ = some (.int .i64 x.2.1) := bX.cell rfl
    have c1 : W.cell? ⟨Bx, 1, none⟩ = some (.int .i64 x.2.2) := bX.cell rfl
    have c3 : W.cell? ⟨w.heap.size + 1, 0, none⟩ = some (.int .i64 c) := s3.cell rfl
    have c4 : W.cell? ⟨w.heap.size + 1 + 1, 0, none⟩ = some (.int .i64 0) := s4.cell rfl
    have c5 : W.cell? ⟨w.heap.size + 1 + 1 + 1, 0, none⟩ = some (.bool false) := s5.cell rfl
    have f4 := s4.frozen 0
    have f5 := s5.frozen 0
    gi_wp2
    · have hx : x.2.1 = c := eq_of_beq (by assumption)
      obtain ⟨t1, t2, t3⟩ := two_stores (w := w) (x' := .int .i64 x.2.2) (y' := .bool true) s4 s5 (by omega) (hbW.trans (hB.mono hbW.size))
      exact ⟨((KeepsOthers.setCell _ _ _).trans (KeepsOthers.setCell _ _ _)).from _, ⟨rfl, ⟨pre, x, rfl, hi, hx, t1⟩, t2⟩, t3⟩
    · have hx : x.2.1 ≠ c := ne_of_beq_false (by assumption)
      exact ⟨KeepsFrom.refl _ _, Below.refl _ _, ⟨fun p hp' => (List.mem_append.1 hp').elim (hi p) (fun e => by simp at e; subst e; exact hx), hB⟩⟩
  case done =>
    rintro D ys W hD rfl ⟨hne, hB⟩ hK
    have s4 := r4.below hB r4.lt
    have s5 := r5.below hB r5.lt
    have c4 : W.cell? ⟨w.heap.size + 1 + 1, 0, none⟩ = some (.int .i64 0) := s4.cell rfl
    have c5 : W.cell? ⟨w.heap.size + 1 + 1 + 1, 0, none⟩ = some (.bool false) := s5.cell rfl
    have f4 := s4.frozen 0
    have f5 := s5.frozen 0
    gi_wp2
    obtain ⟨t1, t2, t3⟩ := two_stores (w := w) (x' := .int .i64 0) (y' := .bool false) s4 s5 (by omega) (hbW.trans (hB.mono hbW.size))
    have hK' := ((KeepsOthers.setCell W ⟨w.heap.size + 1 + 1, 0, none⟩ (.int .i64 0)).trans (KeepsOthers.setCell _ ⟨w.heap.size + 1 + 1 + 1, 0, none⟩ (.bool false))).same D _ hK rfl
    refine ⟨by simp, .inl ⟨_, _, rfl, run_takeDeferred hK', ?_⟩⟩
    have d1 := cell_kept t1 (grownBy_putObj' _ D (.deferred none)) (fun r e => by cases e; exact ⟨_, hK', rfl⟩)
    have d2 := cell_kept t2 (grownBy_putObj' _ D (.deferred none)) (fun r e => by cases e; exact ⟨_, hK', rfl⟩)
    refine ⟨.tuple #[.int .i64 0, .bool false], ?_, by rw [getW_none hne], t3.trans (belowK_b (w := w) (Nat.le_refl _) _ D _ _ (by omega) hK' rfl rfl)⟩
    simp [results, Tryz.f168, go_sem, d1, d2]
  case stop =>
    rintro D j pre W hD ⟨k, hk, rfl⟩ ⟨⟨rfl, ⟨ini, last, e1, e2, e3, c4⟩, c5⟩, hB⟩ hK
    gi_wp2
    refine ⟨by simp, .inl ⟨_, _, rfl, run_takeDeferred hK, ?_⟩⟩
    have d1 := cell_kept c4 (grownBy_putObj' _ D (.deferred none)) (fun r e => by cases e; exact ⟨_, hK, rfl⟩)
    have d2 := cell_kept c5 (grownBy_putObj' _ D (.deferred none)) (fun r e => by cases e; exact ⟨_, hK, rfl⟩)
    obtain ⟨k', rfl⟩ : ∃ k', k = k' + 1 := by
      cases k with
      | zero => simp [upto] at e1
      | succ k' => exact ⟨k', rfl⟩
    rw [upto_succ] at e1
    obtain ⟨rfl, e5⟩ := List.append_inj' e1 rfl
    obtain rfl : bk L.1 L.1.length k' = last := by simpa using e5
    refine ⟨.tuple #[.int .i64 (bk L.1 L.1.length k').2.2, .bool true], ?_, by rw [getW_some (by omega) e2 e3], hB.trans (belowK_b (w := w) (Nat.le_refl _) _ D _ _ (by omega) hK rfl rfl)⟩
    simp [results, Tryz.f168, go_sem, d1, d2]

theorem c_Get (L : Lg) (c : Int) : CSpec Tryz.prog 168 [dLg L, .int .i64 c] (.tuple [.int .i64 (if logR L = true then (getW L.1 c).1 else 0), .bool (logR L && (getW L.1 c).2)]) := by
  refine ⟨fun args w => Tryz.call168 args w, fun S0 w cs hS0 hlen hrel => ?_⟩
  match cs, hlen with
  | [v, cv], _ =>
    have hv0 := hrel 0 _ v rfl rfl
    have hc0 := hrel 1 _ cv rfl rfl
    cases hc0
    have hv : RD (fun B => B < w.heap.size) w (dLg L) v := hv0.keep (fun B hB _ => ⟨hS0 B hB, rfl⟩)
    have hv' := hv
    unfold dLg at hv
    cases hv with
    | agg _ cs hl hcs =>
      match cs, hl with
      | [s1, s2], _ =>
        have h1 := hcs 0 _ s1 rfl rfl
        have h2 := hcs 1 _ s2 rfl rfl
        generalize hL1 : L.1.map dW = els at h1
        generalize hL2 : L.2.map dI = els2 at h2
        cases h1 with
        | vec _ a cap B o sz m hcap ha hsz hcell hval =>
          cases h2 with
          | vec _ a2 cap2 B2 o2 sz2 m2 _ _ _ _ _ =>
            have hlen : els.length = L.1.length := by rw [← hL1]; simp
            have hI : Wr w w.heap.size a L.1 := by
              rcases Nat.eq_zero_or_pos L.1.length with h0 | h0
              · exact .inl (List.length_eq_zero_iff.1 h0)
              · have hne : els ≠ [] := fun e => by rw [e] at hlen; simp at hlen; omega
                refine .inr ⟨B, o, ha hne, ?_, fun j hj => ?_⟩
                · have e0 : els[0]? = some (dW L.1[0]) := by rw [← hL1]; simp [List.getElem?_eq_getElem h0]
                  exact (hcell 0 _ 0 _ e0 rfl).1
                · have e0 : els[j]? = some (dW L.1[j]) := by rw [← hL1]; simp [List.getElem?_eq_getElem hj]
                  have hs : sz = 2 := by have := hsz _ (List.mem_of_getElem? e0); simpa [dW, D.cells] using this.symm
                  subst hs
                  have a0 := (hcell j _ 0 _ e0 rfl).2
                  have a1 := (hcell j _ 1 _ e0 rfl).2
                  have b0 := hval j _ 0 _ e0 rfl
                  have b1 := hval j _ 1 _ e0 rfl
                  rw [List.getElem?_eq_getElem hj]
                  generalize m (j * 2 + 0) = q0 at a0 b0
                  generalize m (j * 2 + 1) = q1 at a1 b1
                  cases b0
                  cases b1
                  exact ⟨a0, by rw [Nat.add_assoc]; exact a1⟩
            rw [hlen] at hv' ⊢
            have fin : ∀ (x : Int) (y : Bool), (Calls Tryz.prog 168 #[.agg #[.slice a L.1.length cap, .slice a2 els2.length cap2], .int .i64 c] w fun e W' => e = .returned (.tuple #[.int .i64 x, .bool y]) ∧ Below w.heap.size w W') →
                Calls Tryz.prog 168 #[.agg #[.slice a L.1.length cap, .slice a2 els2.length cap2], .int .i64 c] w fun e w' => ∃ c S', e = .returned c ∧ RD S' w' (.tuple [.int .i64 x, .bool y]) c ∧ (∀ B, S' B → (S0 B ∨ w.heap.size ≤ B) ∧ B < w'.heap.size) ∧ Kp ⟨w.heap.size, fun _ => False, S0⟩ w w' := by
              intro x y h
              refine h.mono ?_
              rintro e W' ⟨rfl, hb⟩
              refine ⟨_, fun _ => False, rfl, RD.tuple [.int .i64 x, .bool y] [.int .i64 x, .bool y] rfl (fun i d c hd hc => ?_), fun B hB => hB.elim, ⟨hb.os, hb.tape, hb.output, hb.size, fun B hB _ => hb.block B hB⟩⟩
              match i with
              | 0 => simp at hd hc; subst hd; subst hc; exact .int _ _
              | 1 => simp at hd hc; subst hd; subst hc; exact .bool _
              | i + 2 => simp at hd
            refine fin _ _ ?_
            cases hlog : logR L with
            | false => exact callsIn_wide.1 (get_no 3 (Nat.le_refl _) L a a2 cap els2.length cap2 c w hlog hv')
            | true => exact callsIn_wide.1 (get_yes 3 (Nat.le_refl _) L a a2 cap els2.length cap2 c w hlog (by have := (logR_len hlog).1; omega) hv' hI)

end Go.Proofs.YtjhfpabldidlgaaGreat.AM

set_option linter.all false
set_option maxRecDepth 100000
set_option maxHeartbeats 4000000
namespace Go.Proofs.YtjhfpabldidlgaaGreat.AM
open Go Go.RowKit

structure Fr where
  mid : Int
  fin : Int
  long : Int
  regs : List Int
  deriving DecidableEq
def dFr (f : Fr) : D := .agg [.int .i64 f.mid, .int .i64 f.fin, .int .i64 f.long, .vec (f.regs.map dI)]
abbrev Rd := Int × Int × Int
def dRd (r : Rd) : D := .agg [.int .i64 r.1, .int .i64 r.2.1, .int .i64 r.2.2]
structure Ty where
  who : Int
  snap : Int
  pc : Int
  regs : List Int
  path : List Int
  reads : List Rd
  log : Lg
  frames : List Fr
  kind : Int
  why : Int
  deriving DecidableEq
def tyC (t : Ty) : List D := [.int .i64 t.who, .int .i64 t.snap, .int .i64 t.pc, .vec (t.regs.map dI), .vec (t.path.map dI), .vec (t.reads.map dRd), .vec (t.log.1.map dW), .vec (t.log.2.map dI), .vec (t.frames.map dFr), .int .i64 t.kind, .int .i64 t.why]
def dT (t : Ty) : D := .agg (tyC t)

def popT (t : Ty) (f : Fr) : Ty := { t with pc := f.fin, frames := t.frames.dropLast, log := (logKeep t.log).1 }
def setF : Nat → Ty → Ty
  | 0, t => t
  | n + 1, t => match t.frames[n]? with
    | some f => if f.mid = t.pc then setF n (popT t f) else t
    | none => t
def doneT (n : Int) (t : Ty) : Ty := if t.pc = n then { t with kind := 1 } else t
def setT (n : Int) (t : Ty) : Ty := doneT n (setF t.frames.length t)
def zeroT : Ty := ⟨0, 0, 0, [], [], [], ([], []), [], 0, 0⟩
def newT (who snap : Int) : Ty := { zeroT with who := who, snap := snap, regs := [0, 0, 0, 0, 0, 0, 0, 0] }
def mayB (c : List St) (who snap : Int) : Bool := decide (codeC c = 0) && decide (1 ≤ who) && decide (who ≤ 8) && tickR snap
def begT (c : List St) (who snap : Int) : Ty := if mayB c who snap = true then setT c.length (newT who snap) else zeroT

def rightRd (r : Rd) : Bool := decide (0 ≤ r.1) && tickR r.2.1 && spanR r.2.2
def readsR (l : List Rd) : Bool := l.all rightRd && decide ((l.map fun r => r.1).Nodup) && decide (l.length ≤ 24)
def wrongR (r : Int × Int) : Bool := decide (r.1 < 0) || decide (2147483647 < r.1) || decide (r.2 < 0) || decide (8 < r.2)
def tableR (r : List (Int × Int)) : Bool := decide (1 ≤ r.length) && decide (r.length ≤ 16) && !(r.any wrongR)
def getL (l : Lg) (c : Int) : Int × Bool := (if logR l = true then (getW l.1 c).1 else 0, logR l && (getW l.1 c).2)
def recR (r : List (Int × Int)) (c : Int) : Int × Int := (r[(c.tmod r.length).toNat]?).getD (0, 0)

def endT (t : Ty) (k w : Int) : Ty := { t with kind := k, why := w }
def putT (t : Ty) (a v : Int) : Ty := { t with regs := t.regs.set a.toNat v, pc := t.pc + 1 }
def loadT (t : Ty) (s : St) (h : List (Bool × Int)) (r : List (Int × Int)) : Ty :=
  if (heapGet h s.b).2 ≠ 0 then endT t 4 s.b
  else if (getL t.log s.b).2 = true then putT t s.a (getL t.log s.b).1
  else match t.reads.find? (fun x => x.1 == s.b) with
    | some x => putT t s.a x.2.2
    | none => if (recR r s.b).2 ≠ 0 ∨ (recR r s.b).1 > t.snap then endT t 5 0
      else putT { t with reads := t.reads ++ [(s.b, (recR r s.b).1, (heapGet h s.b).1)] } s.a (heapGet h s.b).1
def tellT (t : Ty) (h : List (Bool × Int)) (x : List (Int × Int)) : Int := (evalT h t.regs x).1
def storeT (t : Ty) (s : St) (h : List (Bool × Int)) : Ty :=
  if (heapGet h s.a).2 ≠ 0 then endT t 4 s.a else { t with log := (logPut t.log (s.a, tellT t h s.t)).1, pc := t.pc + 1 }
def skipT (t : Ty) (s : St) (h : List (Bool × Int)) : Ty := { t with pc := if tellT t h s.t = 0 then t.pc + 1 + s.a else t.pc + 1 }
def agT (t : Ty) : Ty := match t.frames.getLast? with
  | none => endT t 2 0
  | some f => { t with log := (logBack t.log).1, frames := t.frames.dropLast, regs := f.regs, pc := f.mid, path := t.path.take f.long.toNat ++ [2] }
def eiT (t : Ty) (s : St) : Ty :=
  { t with log := (logMark t.log).1, frames := t.frames ++ [⟨t.pc + 1 + s.a, t.pc + 1 + s.a + s.b, t.path.length, t.regs⟩], path := t.path ++ [1], pc := t.pc + 1 }
def doT (t : Ty) (s : St) (h : List (Bool × Int)) (r : List (Int × Int)) : Ty :=
  if s.d = 1 then loadT t s h r else if s.d = 2 then putT t s.a (tellT t h s.t) else if s.d = 3 then storeT t s h else if s.d = 4 then skipT t s h
  else if s.d = 5 then agT t else if s.d = 6 then endT t 3 s.a else eiT t s
def mayT (t : Ty) (h : List (Bool × Int)) (r : List (Int × Int)) : Bool := heapR h && tableR r && decide (t.kind = 0)
def stpT (t : Ty) (c : List St) (h : List (Bool × Int)) (r : List (Int × Int)) : Ty := match c[t.pc.toNat]? with
  | some s => if (doT t s h r).kind ≠ 0 then doT t s h r else setT c.length (doT t s h r)
  | none => t
def stepT (t : Ty) (c : List St) (h : List (Bool × Int)) (r : List (Int × Int)) : Ty := if mayT t h r = true then stpT t c h r else t

def Wd (l : List St) (d : Int) : Prop := (wellW l).2 = true ∧ (wellW l).1 ≤ d

theorem Wd.nil {d : Int} (h : 0 ≤ d) : Wd [] d := by simp [Wd, wellW, h]
theorem Wd.mono {l : List St} {d e : Int} (h : Wd l d) (hd : d ≤ e) : Wd l e := ⟨h.1, by have := h.2; omega⟩
theorem Wd.pos {l : List St} {d : Int} (h : Wd l d) (hm : ∀ x ∈ l, mayS x = true) : 0 ≤ d := by have := (wellW_rng _ l (Nat.le_refl _) hm).1; have := h.2; omega

theorem Wd.app : ∀ (N : Nat) (a b : List St) (d : Int), a.length ≤ N → (∀ x ∈ a, mayS x = true) → Wd a d → Wd b d → Wd (a ++ b) d
  | N, [], b, d, _, _, _, h => by simpa using h
  | N + 1, x :: r, b, d, hN, hm, ha, hb => by
    simp only [List.length_cons] at hN
    have hr : ∀ y ∈ r, mayS y = true := fun y hy => hm y (by simp [hy])
    unfold Wd at ha ⊢
    rw [wellW] at ha
    rw [List.cons_append, wellW]
    by_cases h4 : x.d = 4 ∧ x.a > (r.length : Int)
    · rw [if_pos h4] at ha; cases ha.1
    rw [if_neg h4] at ha
    have h4' : ¬ (x.d = 4 ∧ x.a > ((r ++ b).length : Int)) := fun h => h4 ⟨h.1, by have := h.2; simp at this; omega⟩
    rw [if_neg h4']
    by_cases h7 : x.d ≠ 7
    · rw [if_pos h7] at ha ⊢
      exact Wd.app N r b d (by omega) hr ha hb
    rw [if_neg h7] at ha ⊢
    obtain ⟨a1, a2, b1, b2⟩ := (mayS_rng (hm x (by simp))).2 (by omega)
    by_cases hf : x.a + x.b > (r.length : Int)
    · rw [if_pos hf] at ha; cases ha.1
    rw [if_neg hf] at ha
    rw [if_neg (by simp; omega)]
    simp only [Bool.and_eq_true] at ha ⊢
    obtain ⟨⟨⟨w1, w2⟩, w3⟩, w4⟩ := ha
    have e1 : (r ++ b).take x.a.toNat = r.take x.a.toNat := List.take_append_of_le_length (by omega)
    have e2 : ((r ++ b).drop x.a.toNat).take x.b.toNat = (r.drop x.a.toNat).take x.b.toNat := by
      rw [List.drop_append_of_le_length (by omega), List.take_append_of_le_length (by simp; omega)]
    have e3 : (r ++ b).drop (x.a + x.b).toNat = r.drop (x.a + x.b).toNat ++ b := List.drop_append_of_le_length (by omega)
    rw [e1, e2, e3]
    have i3 := Wd.app N (r.drop (x.a + x.b).toNat) b d (by simp; omega) (fun y hy => hr y (List.mem_of_mem_drop hy)) ⟨w3, by omega⟩ hb
    exact ⟨⟨⟨w1, w2⟩, i3.1⟩, by have := i3.2; omega⟩

theorem Wd.tail {x : St} {r : List St} {d : Int} (hm : ∀ y ∈ x :: r, mayS y = true) (h : Wd (x :: r) d) : Wd r d ∧ (x.d = 4 → x.a ≤ (r.length : Int)) ∧
    (x.d = 7 → x.a + x.b ≤ (r.length : Int) ∧ Wd (r.take x.a.toNat) (d - 1) ∧ Wd ((r.drop x.a.toNat).take x.b.toNat) (d - 1) ∧ Wd (r.drop (x.a + x.b).toNat) d) := by
  have hr : ∀ y ∈ r, mayS y = true := fun y hy => hm y (by simp [hy])
  unfold Wd at h
  rw [wellW] at h
  by_cases h4 : x.d = 4 ∧ x.a > (r.length : Int)
  · rw [if_pos h4] at h; cases h.1
  rw [if_neg h4] at h
  by_cases h7 : x.d ≠ 7
  · rw [if_pos h7] at h
    exact ⟨h, fun e => by have : ¬ x.a > (r.length : Int) := fun hh => h4 ⟨e, hh⟩; omega, fun e => absurd e h7⟩
  rw [if_neg h7] at h
  have e7 : x.d = 7 := by omega
  obtain ⟨a1, a2, b1, b2⟩ := (mayS_rng (hm x (by simp))).2 e7
  by_cases hf : x.a + x.b > (r.length : Int)
  · rw [if_pos hf] at h; cases h.1
  rw [if_neg hf] at h
  simp only [Bool.and_eq_true] at h
  obtain ⟨⟨⟨w1, w2⟩, w3⟩, w4⟩ := h
  have p1 : Wd (r.take x.a.toNat) (d - 1) := ⟨w1, by omega⟩
  have p2 : Wd ((r.drop x.a.toNat).take x.b.toNat) (d - 1) := ⟨w2, by omega⟩
  have p3 : Wd (r.drop (x.a + x.b).toNat) d := ⟨w3, by omega⟩
  refine ⟨?_, fun e => by omega, fun _ => ⟨by omega, p1, p2, p3⟩⟩
  have es : r = r.take x.a.toNat ++ ((r.drop x.a.toNat).take x.b.toNat ++ r.drop (x.a + x.b).toNat) := by
    have : r.drop (x.a + x.b).toNat = (r.drop x.a.toNat).drop x.b.toNat := by rw [List.drop_drop]; congr 1; omega
    rw [this, List.take_append_drop, List.take_append_drop]
  rw [es]
  exact Wd.app _ _ _ _ (Nat.le_refl _) (fun y hy => hr y (List.mem_of_mem_take hy)) (p1.mono (by omega)) (Wd.app _ _ _ _ (Nat.le_refl _) (fun y hy => hr y (List.mem_of_mem_drop (List.mem_of_mem_take hy))) (p2.mono (by omega)) p3)

theorem Wd.drop {d : Int} : ∀ (k : Nat) (l : List St), (∀ y ∈ l, mayS y = true) → Wd l d → Wd (l.drop k) d
  | 0, l, _, h => by simpa using h
  | k + 1, [], _, h => by simpa using h
  | k + 1, x :: r, hm, h => by
    rw [List.drop_succ_cons]
    exact Wd.drop k r (fun y hy => hm y (by simp [hy])) (Wd.tail hm h).1

def WellP (c : List St) (a b : Nat) (d : Int) : Prop := a ≤ b ∧ b ≤ c.length ∧ Wd ((c.take b).drop a) d

theorem WellP.mono {c : List St} {a b : Nat} {d e : Int} (h : WellP c a b d) (hd : d ≤ e) : WellP c a b e := ⟨h.1, h.2.1, h.2.2.mono hd⟩

theorem WellP.trans {c : List St} (hm : ∀ x ∈ c, mayS x = true) {a b e : Nat} {d : Int} (h : WellP c a b d) (h' : WellP c b e d) : WellP c a e d := by
  obtain ⟨h1, h2, h3⟩ := h
  obtain ⟨k1, k2, k3⟩ := h'
  refine ⟨by omega, k2, ?_⟩
  have : (c.take e).drop a = (c.take b).drop a ++ (c.take e).drop b := by
    have e1 : c.take b = (c.take e).take b := by rw [List.take_take, Nat.min_eq_left k1]
    have e2 : (c.take b).drop a = ((c.take e).drop a).take (b - a) := by rw [e1, List.drop_take]
    have e3 : (c.take e).drop b = ((c.take e).drop a).drop (b - a) := by rw [List.drop_drop]; congr 1; omega
    rw [e2, e3, List.take_append_drop]
  rw [this]
  exact Wd.app _ _ _ _ (Nat.le_refl _) (fun x hx => hm x (List.mem_of_mem_take (List.mem_of_mem_drop hx))) h3 k3

theorem WellP.step {c : List St} (hm : ∀ x ∈ c, mayS x = true) {a b : Nat} {d : Int} (h : WellP c a b d) (hab : a < b) {x : St} (hx : c[a]? = some x) : WellP c (a + 1) b d ∧ (x.d = 4 → WellP c (a + 1 + x.a.toNat) b d) ∧
    (x.d = 7 → WellP c (a + 1) (a + 1 + x.a.toNat) (d - 1) ∧ WellP c (a + 1 + x.a.toNat) (a + 1 + x.a.toNat + x.b.toNat) (d - 1) ∧ WellP c (a + 1 + x.a.toNat + x.b.toNat) b d) := by
  obtain ⟨h1, h2, h3⟩ := h
  have hlt : a < (c.take b).length := by simp; omega
  have hdr : (c.take b).drop a = x :: (c.take b).drop (a + 1) := by
    rw [List.drop_eq_getElem_cons hlt]
    congr 1
    have := List.getElem?_eq_some_iff.1 hx
    rw [List.getElem_take]
    exact this.2
  rw [hdr] at h3
  have hmm : ∀ y ∈ x :: (c.take b).drop (a + 1), mayS y = true := fun y hy => by
    rw [← hdr] at hy
    exact hm y (List.mem_of_mem_take (List.mem_of_mem_drop hy))
  obtain ⟨w1, w2, w3⟩ := h3.tail hmm
  have hl : ((c.take b).drop (a + 1)).length = b - (a + 1) := by simp; omega
  rw [hl] at w2 w3
  refine ⟨⟨by omega, h2, w1⟩, fun e => ?_, fun e => ?_⟩
  · have h4 := w2 e
    refine ⟨by omega, h2, ?_⟩
    have := Wd.drop x.a.toNat _ (fun y hy => hmm y (by simp [hy])) w1
    rwa [List.drop_drop] at this
  · obtain ⟨q1, q2, q3, q4⟩ := w3 e
    obtain ⟨a1, a2, b1, b2⟩ := (mayS_rng (hmm x (by simp))).2 e
    have ek : (x.a + x.b).toNat = x.a.toNat + x.b.toNat := by omega
    refine ⟨⟨by omega, by omega, ?_⟩, ⟨by omega, by omega, ?_⟩, ⟨by omega, h2, ?_⟩⟩
    · have : (c.take (a + 1 + x.a.toNat)).drop (a + 1) = ((c.take b).drop (a + 1)).take x.a.toNat := by
        rw [List.take_drop, List.take_take, Nat.min_eq_left (by omega)]
      rw [this]; exact q2
    · have : (c.take (a + 1 + x.a.toNat + x.b.toNat)).drop (a + 1 + x.a.toNat) = (((c.take b).drop (a + 1)).drop x.a.toNat).take x.b.toNat := by
        rw [List.drop_drop, List.take_drop, List.take_take, Nat.min_eq_left (by omega)]
      rw [this]; exact q3
    · rw [ek, List.drop_drop] at q4
      have : a + 1 + x.a.toNat + x.b.toNat = a + 1 + (x.a.toNat + x.b.toNat) := by omega
      rw [this]; exact q4
end Go.Proofs.YtjhfpabldidlgaaGreat.AM
