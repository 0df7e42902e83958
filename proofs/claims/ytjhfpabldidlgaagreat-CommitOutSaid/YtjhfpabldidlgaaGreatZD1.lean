/- CommitOut: the law returns true whatever it is given, and leaves that as it was; no condition. -/
import Derived.Test.YtjhfpabldidlgaaGreatRows
import Derived.Carry
import Derived.Test.YtjhfpabldidlgaaGreatJD6
set_option linter.all false
namespace Go.Proofs.YtjhfpabldidlgaaGreat
open Go Go.RowKit Go.ChangeShapes Go.WideShapes Go.ChangeAt AM

theorem CommitOut_own : ownKnob Tryz.prog.godebug = none := by kernel_rfl
theorem CommitOut_laidOut : laidOutB Tryz.prog = true := by kernel_rfl

set_option maxRecDepth 100000 in
theorem CommitOut_lifted (os : Os) (started : os.Started) (H : Type) (enc : TypeId × Value → H) :
    ReturnsInHanded {} Tryz.checked os 7 .any (Rows.commitOutSpec.pre6 enc Tryz.prog Tryz.f7 Rows.commitOutRow.domain false) (Rows.commitOutSpec.post enc Tryz.prog Tryz.f7 false true false false) := by
  refine returnsInHanded_of_change (C := Tryz.checked) CommitOut_own started (by kernel_rfl) Tryz.func7
    (ChangeSpec.witness6 (enc := enc) (C := Tryz.checked) false ⟨#[], #[.slice none 0 0, .int .i64 0, .int .i64 0, .agg #[.slice none 0 0, .slice none 0 0, .int .i64 0], .int .u8 0, .bool false], []⟩ 8 (by kernel_rfl) (by kernel_rfl) (by kernel_rfl) (by kernel_rfl)) ?_
  intro W base args ds gs before hval0 hW hcnd _
  have hval : ∀ (j : Nat) t v, Tryz.f7.params[j]? = some t → args[j]? = some v → Value.okWide Tryz.prog W .any base t v := hval0
  have hW' := hW
  obtain ⟨p, q, hA0, hV, rfl, hfz, hnd⟩ := hW
  have hA : DataW.TrodAll enc Tryz.prog W 0 (fun _ => true) true Tryz.f7.params.toList args.toList ds p := hA0
  rw [Tryz.params7] at hA hval
  obtain ⟨v0, v1, v2, v3, v4, v5, d0, d1, d2, d3, d4, d5, p0, p1, p2, p3, p4, p5, rfl, rfl, rfl, h0, h1, h2, h3, h4, h5⟩ := trodAll_six hA
  obtain ⟨rfl, rfl⟩ := trodVars_none hV
  obtain ⟨e0, g0, r0⟩ := shE_of_trod (P := Tryz.prog) (S0 := fun B => B < W.heap.size) (n := 8) (fun _ h => h) (by kernel_rfl) (hval 0 _ v0 rfl rfl) h0
  obtain ⟨e1, g1, r1⟩ := shE_of_trod (P := Tryz.prog) (S0 := fun B => B < W.heap.size) (n := 8) (fun _ h => h) (by kernel_rfl) (hval 1 _ v1 rfl rfl) h1
  obtain ⟨e2, g2, r2⟩ := shE_of_trod (P := Tryz.prog) (S0 := fun B => B < W.heap.size) (n := 8) (fun _ h => h) (by kernel_rfl) (hval 2 _ v2 rfl rfl) h2
  obtain ⟨e3, g3, r3⟩ := shE_of_trod (P := Tryz.prog) (S0 := fun B => B < W.heap.size) (n := 8) (fun _ h => h) (by kernel_rfl) (hval 3 _ v3 rfl rfl) h3
  obtain ⟨e4, g4, r4⟩ := shE_of_trod (P := Tryz.prog) (S0 := fun B => B < W.heap.size) (n := 8) (fun _ h => h) (by kernel_rfl) (hval 4 _ v4 rfl rfl) h4
  obtain ⟨e5, g5, r5⟩ := shE_of_trod (P := Tryz.prog) (S0 := fun B => B < W.heap.size) (n := 8) (fun _ h => h) (by kernel_rfl) (hval 5 _ v5 rfl rfl) h5
  obtain ⟨x0, rfl, b0⟩ := shE_Code g0
  obtain ⟨x1, rfl, b1⟩ := shE_int Tryz.underlying3 g1
  obtain ⟨x2, rfl, b2⟩ := shE_int Tryz.underlying3 g2
  obtain ⟨x3, rfl, b3⟩ := shE_Wl g3
  obtain ⟨x4, rfl, b4⟩ := shE_int Tryz.underlying5 g4
  obtain ⟨x5, rfl⟩ := shE_bool Tryz.underlying4 g5
  exact law_calls (c_CommitOut x0 x1 x2 x3 x4 x5 (Nat.le_trans b0.1 (by decide)) b4.1) ((((((RDs.one r5).cons r4).cons r3).cons r2).cons r1).cons r0) hW' CommitOut_laidOut (by decide +kernel) rfl rfl rfl rfl rfl (by kernel_rfl)

theorem CommitOut_holds : Rows.CommitOutSaid :=
  OpenClaim.holds_of_wide 7 Tryz.f7 rfl rfl rfl rfl rfl rfl rfl ⟨rfl, rfl, rfl, rfl, rfl⟩ rfl rfl rfl rfl rfl (by kernel_rfl) Tryz.func7 (by kernel_rfl)
    (of_decide_eq_true (by kernel_rfl)) (by unfold Func.isWrapper; first | (rw [if_pos (by decide +kernel)]; kernel_rfl) | (rw [if_neg (by decide +kernel)]; exact ⟨rfl, rfl⟩))
    (fun os started H enc _ => CommitOut_lifted os started H enc)

end Go.Proofs.YtjhfpabldidlgaaGreat
