/- WheelSteps: the law returns true whatever it is given, and leaves that as it was; no condition. -/
import Derived.Test.YtaejlmengfahnaaRows
import Derived.Test.YtaejlmengfahnaaJWA6
set_option linter.all false
namespace Go.Proofs.Ytaejlmengfahnaa
open Go Go.RowKit Go.ChangeShapes Go.WideShapes Go.ChangeAt AM

theorem WheelSteps_own : ownKnob Try.prog.godebug = none := by kernel_rfl
theorem WheelSteps_laidOut : laidOutB Try.prog = true := by kernel_rfl

set_option maxRecDepth 100000 in
theorem WheelSteps_lifted (os : Os) (started : os.Started) (H : Type) (enc : TypeId × Value → H) :
    ReturnsInHanded {} Try.checked os 4 .any (Rows.wheelStepsSpec.pre6 enc Try.prog Try.f4 Rows.wheelStepsRow.domain false) (Rows.wheelStepsSpec.post enc Try.prog Try.f4 false true false false) := by
  refine returnsInHanded_of_change (C := Try.checked) WheelSteps_own started (by kernel_rfl) Try.func4
    (ChangeSpec.witness6 (enc := enc) (C := Try.checked) false ⟨#[], #[.agg #[.int .i64 0, .slice none 0 0, .slice none 0 0, .slice none 0 0, .slice none 0 0, .slice none 0 0, .slice none 0 0, .slice none 0 0, .slice none 0 0], .int .u8 0], []⟩ 8 (by kernel_rfl) (by kernel_rfl) (by kernel_rfl) (by kernel_rfl)) ?_
  intro W base args ds gs before hval0 hW hcnd _
  have hval : ∀ (j : Nat) t v, Try.f4.params[j]? = some t → args[j]? = some v → Value.okWide Try.prog W .any base t v := hval0
  have hW' := hW
  obtain ⟨p, q, hA0, hV, rfl, hfz, hnd⟩ := hW
  have hA : DataW.TrodAll enc Try.prog W 0 (fun _ => true) true Try.f4.params.toList args.toList ds p := hA0
  rw [Try.params4] at hA hval
  obtain ⟨v0, v1, d0, d1, p0, p1, rfl, rfl, rfl, h0, h1⟩ := trodAll_two hA
  obtain ⟨rfl, rfl⟩ := trodVars_none hV
  obtain ⟨e0, g0, r0⟩ := shE_of_trod (P := Try.prog) (S0 := fun B => B < W.heap.size) (n := 8) (fun _ h => h) (by kernel_rfl) (hval 0 _ v0 rfl rfl) h0
  obtain ⟨e1, g1, r1⟩ := shE_of_trod (P := Try.prog) (S0 := fun B => B < W.heap.size) (n := 8) (fun _ h => h) (by kernel_rfl) (hval 1 _ v1 rfl rfl) h1
  obtain ⟨x0, rfl, b0⟩ := shE_Wh g0
  obtain ⟨x1, rfl, b1⟩ := shE_int Try.underlying5 g1
  exact law_calls (c_WheelSteps x0 x1 b0.1 (fun l hl => Nat.lt_of_le_of_lt (b0.2 l hl) (by decide)) ⟨b1.1, Int.lt_of_le_of_lt b1.2 (by decide)⟩) ((RDs.one r1).cons r0) hW' WheelSteps_laidOut (by decide +kernel) rfl rfl rfl rfl rfl (by kernel_rfl)

theorem WheelSteps_holds : Rows.WheelStepsSaid :=
  OpenClaim.holds_of_wide 4 Try.f4 rfl rfl rfl rfl rfl rfl rfl ⟨rfl, rfl, rfl, rfl, rfl⟩ rfl rfl rfl rfl rfl (by kernel_rfl) Try.func4 (by kernel_rfl)
    (of_decide_eq_true (by kernel_rfl)) (by unfold Func.isWrapper; first | (rw [if_pos (by decide +kernel)]; kernel_rfl) | (rw [if_neg (by decide +kernel)]; exact ⟨rfl, rfl⟩))
    (fun os started H enc _ => WheelSteps_lifted os started H enc)

end Go.Proofs.Ytaejlmengfahnaa
