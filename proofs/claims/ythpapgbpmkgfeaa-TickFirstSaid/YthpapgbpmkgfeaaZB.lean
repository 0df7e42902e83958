/- TickFirst: the law returns true whatever it is given, and leaves that as it was; no condition. -/
import Derived.Test.YthpapgbpmkgfeaaRows
import Derived.Test.YthpapgbpmkgfeaaJA5
set_option linter.all false
namespace Go.Proofs.Ythpapgbpmkgfeaa
open Go Go.RowKit Go.ChangeShapes Go.WideShapes Go.ChangeAt AM

theorem TickFirst_own : ownKnob Try.prog.godebug = none := by kernel_rfl
theorem TickFirst_laidOut : laidOutB Try.prog = true := by kernel_rfl

set_option maxRecDepth 100000 in
theorem TickFirst_lifted (os : Os) (started : os.Started) (H : Type) (enc : TypeId × Value → H) :
    ReturnsInHanded {} Try.checked os 12 .any (Rows.tickFirstSpec.pre6 enc Try.prog Try.f12 Rows.tickFirstRow.domain false) (Rows.tickFirstSpec.post enc Try.prog Try.f12 false true false false) := by
  refine returnsInHanded_of_change (C := Try.checked) TickFirst_own started (by kernel_rfl) Try.func12
    (ChangeSpec.witness6 (enc := enc) (C := Try.checked) false ⟨#[], #[.slice none 0 0], []⟩ 8 (by kernel_rfl) (by kernel_rfl) (by kernel_rfl) (by kernel_rfl)) ?_
  intro W base args ds gs before hval0 hW hcnd _
  have hval : ∀ (j : Nat) t v, Try.f12.params[j]? = some t → args[j]? = some v → Value.okWide Try.prog W .any base t v := hval0
  have hW' := hW
  obtain ⟨p, q, hA0, hV, rfl, hfz, hnd⟩ := hW
  have hA : DataW.TrodAll enc Try.prog W 0 (fun _ => true) true Try.f12.params.toList args.toList ds p := hA0
  rw [Try.params12] at hA hval
  obtain ⟨v0, d0, rfl, rfl, h0⟩ := trodAll_one hA
  obtain ⟨rfl, rfl⟩ := trodVars_none hV
  obtain ⟨e0, g0, r0⟩ := shE_of_trod (P := Try.prog) (S0 := fun B => B < W.heap.size) (n := 8) (fun _ h => h) (by kernel_rfl) (hval 0 _ v0 rfl rfl) h0
  obtain ⟨x0, rfl, l0, b0⟩ := shE_ints Try.underlying23 Try.underlying3 g0
  exact law_calls (c_TickFirst x0) (RDs.one r0) hW' TickFirst_laidOut (by decide +kernel) rfl rfl rfl rfl rfl (by kernel_rfl)

theorem TickFirst_holds : Rows.TickFirstSaid :=
  OpenClaim.holds_of_wide 12 Try.f12 rfl rfl rfl rfl rfl rfl rfl ⟨rfl, rfl, rfl, rfl, rfl⟩ rfl rfl rfl rfl rfl (by kernel_rfl) Try.func12 (by kernel_rfl)
    (of_decide_eq_true (by kernel_rfl)) (by unfold Func.isWrapper; first | (rw [if_pos (by decide +kernel)]; kernel_rfl) | (rw [if_neg (by decide +kernel)]; exact ⟨rfl, rfl⟩))
    (fun os started H enc _ => TickFirst_lifted os started H enc)

end Go.Proofs.Ythpapgbpmkgfeaa
