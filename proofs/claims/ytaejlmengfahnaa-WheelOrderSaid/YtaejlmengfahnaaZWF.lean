/- WheelOrder: the law returns true whatever it is given, and leaves that as it was; no condition. -/
import Derived.Test.YtaejlmengfahnaaRows
import Derived.Test.YtaejlmengfahnaaJWA6
set_option linter.all false
namespace Go.Proofs.Ytaejlmengfahnaa
open Go Go.RowKit Go.ChangeShapes Go.WideShapes Go.ChangeAt AM

theorem WheelOrder_own : ownKnob Try.prog.godebug = none := by kernel_rfl
theorem WheelOrder_laidOut : laidOutB Try.prog = true := by kernel_rfl

set_option maxRecDepth 100000 in
theorem WheelOrder_lifted (os : Os) (started : os.Started) (H : Type) (enc : TypeId × Value → H) :
    ReturnsInHanded {} Try.checked os 7 .any (Rows.wheelOrderSpec.pre6 enc Try.prog Try.f7 Rows.wheelOrderRow.domain false) (Rows.wheelOrderSpec.post enc Try.prog Try.f7 false true false false) := by
  refine returnsInHanded_of_change (C := Try.checked) WheelOrder_own started (by kernel_rfl) Try.func7
    (ChangeSpec.witness6 (enc := enc) (C := Try.checked) false ⟨#[], #[.int .u16 0, .slice none 0 0, .int .u8 0], []⟩ 8 (by kernel_rfl) (by kernel_rfl) (by kernel_rfl) (by kernel_rfl)) ?_
  intro W base args ds gs before hval0 hW hcnd _
  have hval : ∀ (j : Nat) t v, Try.f7.params[j]? = some t → args[j]? = some v → Value.okWide Try.prog W .any base t v := hval0
  have hW' := hW
  obtain ⟨p, q, hA0, hV, rfl, hfz, hnd⟩ := hW
  have hA : DataW.TrodAll enc Try.prog W 0 (fun _ => true) true Try.f7.params.toList args.toList ds p := hA0
  rw [Try.params7] at hA hval
  obtain ⟨v0, v1, v2, d0, d1, d2, p0, p1, p2, rfl, rfl, rfl, h0, h1, h2⟩ := trodAll_three hA
  obtain ⟨rfl, rfl⟩ := trodVars_none hV
  obtain ⟨e0, g0, r0⟩ := shE_of_trod (P := Try.prog) (S0 := fun B => B < W.heap.size) (n := 8) (fun _ h => h) (by kernel_rfl) (hval 0 _ v0 rfl rfl) h0
  obtain ⟨e1, g1, r1⟩ := shE_of_trod (P := Try.prog) (S0 := fun B => B < W.heap.size) (n := 8) (fun _ h => h) (by kernel_rfl) (hval 1 _ v1 rfl rfl) h1
  obtain ⟨e2, g2, r2⟩ := shE_of_trod (P := Try.prog) (S0 := fun B => B < W.heap.size) (n := 8) (fun _ h => h) (by kernel_rfl) (hval 2 _ v2 rfl rfl) h2
  obtain ⟨x0, rfl, b0⟩ := shE_int Try.underlying56 g0
  obtain ⟨x1, rfl, l1, b1⟩ := shE_ints Try.underlying57 Try.underlying5 g1
  obtain ⟨x2, rfl, b2⟩ := shE_int Try.underlying5 g2
  exact law_calls (c_WheelOrder x0 x1 x2 ⟨b0.1, Int.lt_of_le_of_lt b0.2 (by decide)⟩ (fun x hx => ⟨(b1 x hx).1, Int.lt_of_le_of_lt (b1 x hx).2 (by decide)⟩) (Nat.lt_of_le_of_lt l1 (by decide)) ⟨b2.1, Int.lt_of_le_of_lt b2.2 (by decide)⟩) (((RDs.one r2).cons r1).cons r0) hW' WheelOrder_laidOut (by decide +kernel) rfl rfl rfl rfl rfl (by kernel_rfl)

theorem WheelOrder_holds : Rows.WheelOrderSaid :=
  OpenClaim.holds_of_wide 7 Try.f7 rfl rfl rfl rfl rfl rfl rfl ⟨rfl, rfl, rfl, rfl, rfl⟩ rfl rfl rfl rfl rfl (by kernel_rfl) Try.func7 (by kernel_rfl)
    (of_decide_eq_true (by kernel_rfl)) (by unfold Func.isWrapper; first | (rw [if_pos (by decide +kernel)]; kernel_rfl) | (rw [if_neg (by decide +kernel)]; exact ⟨rfl, rfl⟩))
    (fun os started H enc _ => WheelOrder_lifted os started H enc)

end Go.Proofs.Ytaejlmengfahnaa
