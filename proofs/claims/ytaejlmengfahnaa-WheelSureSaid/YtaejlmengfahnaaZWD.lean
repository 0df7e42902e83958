/- WheelSure: the law returns true whatever it is given, and leaves that as it was; no condition. -/
import Derived.Test.YtaejlmengfahnaaRows
import Derived.Carry
import Derived.Test.YtaejlmengfahnaaJWA6
set_option linter.all false
namespace Go.Proofs.Ytaejlmengfahnaa
open Go Go.RowKit Go.ChangeShapes Go.WideShapes Go.ChangeAt AM

theorem WheelSure_own : ownKnob Try.prog.godebug = none := by kernel_rfl
theorem WheelSure_laidOut : laidOutB Try.prog = true := by kernel_rfl

set_option maxRecDepth 100000 in
theorem WheelSure_lifted (os : Os) (started : os.Started) (H : Type) (enc : TypeId × Value → H) :
    ReturnsInHanded {} Try.checked os 5 .any (Rows.wheelSureSpec.pre6 enc Try.prog Try.f5 Rows.wheelSureRow.domain false) (Rows.wheelSureSpec.post enc Try.prog Try.f5 false true false false) := by
  refine returnsInHanded_of_change (C := Try.checked) WheelSure_own started (by kernel_rfl) Try.func5
    (ChangeSpec.witness6 (enc := enc) (C := Try.checked) false ⟨#[], #[.agg #[.int .i64 0, .slice none 0 0, .slice none 0 0, .slice none 0 0, .slice none 0 0, .slice none 0 0, .slice none 0 0, .slice none 0 0, .slice none 0 0], .int .i64 0, .int .i64 0, .int .i64 0, .bool false], []⟩ 8 (by kernel_rfl) (by kernel_rfl) (by kernel_rfl) (by kernel_rfl)) ?_
  intro W base args ds gs before hval0 hW hcnd _
  have hval : ∀ (j : Nat) t v, Try.f5.params[j]? = some t → args[j]? = some v → Value.okWide Try.prog W .any base t v := hval0
  have hW' := hW
  obtain ⟨p, q, hA0, hV, rfl, hfz, hnd⟩ := hW
  have hA : DataW.TrodAll enc Try.prog W 0 (fun _ => true) true Try.f5.params.toList args.toList ds p := hA0
  rw [Try.params5] at hA hval
  obtain ⟨v0, v1, v2, v3, v4, d0, d1, d2, d3, d4, p0, p1, p2, p3, p4, rfl, rfl, rfl, h0, h1, h2, h3, h4⟩ := trodAll_five hA
  obtain ⟨rfl, rfl⟩ := trodVars_none hV
  obtain ⟨e0, g0, r0⟩ := shE_of_trod (P := Try.prog) (S0 := fun B => B < W.heap.size) (n := 8) (fun _ h => h) (by kernel_rfl) (hval 0 _ v0 rfl rfl) h0
  obtain ⟨e1, g1, r1⟩ := shE_of_trod (P := Try.prog) (S0 := fun B => B < W.heap.size) (n := 8) (fun _ h => h) (by kernel_rfl) (hval 1 _ v1 rfl rfl) h1
  obtain ⟨e2, g2, r2⟩ := shE_of_trod (P := Try.prog) (S0 := fun B => B < W.heap.size) (n := 8) (fun _ h => h) (by kernel_rfl) (hval 2 _ v2 rfl rfl) h2
  obtain ⟨e3, g3, r3⟩ := shE_of_trod (P := Try.prog) (S0 := fun B => B < W.heap.size) (n := 8) (fun _ h => h) (by kernel_rfl) (hval 3 _ v3 rfl rfl) h3
  obtain ⟨e4, g4, r4⟩ := shE_of_trod (P := Try.prog) (S0 := fun B => B < W.heap.size) (n := 8) (fun _ h => h) (by kernel_rfl) (hval 4 _ v4 rfl rfl) h4
  obtain ⟨x0, rfl, b0⟩ := shE_Wh g0
  obtain ⟨x1, rfl, b1⟩ := shE_int Try.underlying3 g1
  obtain ⟨x2, rfl, b2⟩ := shE_int Try.underlying3 g2
  obtain ⟨x3, rfl, b3⟩ := shE_int Try.underlying3 g3
  obtain ⟨x4, rfl⟩ := shE_bool Try.underlying4 g4
  exact law_calls (c_WheelSure x0 x1 x2 x3 x4 b0.1 (fun l hl => Nat.lt_of_le_of_lt (b0.2 l hl) (by decide))) (((((RDs.one r4).cons r3).cons r2).cons r1).cons r0) hW' WheelSure_laidOut (by decide +kernel) rfl rfl rfl rfl rfl (by kernel_rfl)

theorem WheelSure_holds : Rows.WheelSureSaid :=
  OpenClaim.holds_of_wide 5 Try.f5 rfl rfl rfl rfl rfl rfl rfl ⟨rfl, rfl, rfl, rfl, rfl⟩ rfl rfl rfl rfl rfl (by kernel_rfl) Try.func5 (by kernel_rfl)
    (of_decide_eq_true (by kernel_rfl)) (by unfold Func.isWrapper; first | (rw [if_pos (by decide +kernel)]; kernel_rfl) | (rw [if_neg (by decide +kernel)]; exact ⟨rfl, rfl⟩))
    (fun os started H enc _ => WheelSure_lifted os started H enc)

end Go.Proofs.Ytaejlmengfahnaa
