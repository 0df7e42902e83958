/- The row of a law that returns true and leaves all as it was. -/
import Derived.Test.YthpapgbpmkgfeaaAm26
set_option linter.all false
namespace Go.Proofs.Ythpapgbpmkgfeaa.AM
open Go Go.RowKit Go.ChangeShapes Go.WideShapes Go.ChangeAt

section
variable {H : Type} {enc : TypeId × Value → H} {P : Program}

theorem trodAll_below (hl : laidOutB P = true) {W W' : World} (hb : Below W.heap.size W W') : ∀ {ts : List TypeId} {vs : List Value} {ds : List (DataW H)} {ps : List MemPlace},
    (∀ t ∈ ts, P.readableRec t = true ∧ t < P.types.size) → DataW.TrodAll enc P W 0 (fun _ => true) true ts vs ds ps → (∀ x ∈ ps, x.block < W.heap.size) →
    DataW.TrodAll enc P W' 0 (fun b => decide (b < W.heap.size)) true ts vs ds ps
  | [], vs, ds, ps, _, h, _ => by
    obtain ⟨rfl, rfl, rfl⟩ := trodAll_nil h
    rfl
  | t :: ts, vs, ds, ps, hts, h, hlt => by
    obtain ⟨v, vs', d, ds', p, q, rfl, rfl, rfl, h1, h2⟩ := trodAll_cons h
    exact ⟨p, q, Below.trod hl (hts t (by simp)).1 (hts t (by simp)).2 h1 hb (fun x hx => hlt x (by simp [hx])), trodAll_below hl hb (fun u hu => hts u (by simp [hu])) h2 (fun x hx => hlt x (by simp [hx])), rfl⟩

theorem law_calls {f : Nat} {fn : Func} {s : ChangeSpec} {W : World} {args : Array Value} {ds gs : List (DataW H)} {before : List MemPlace} {as : List D} {t : TypeId}
    (hC : CSpec P f as (.bool true)) (hrel : RDs (fun B => B < W.heap.size) W as args.toList) (hW : DataW.Whole enc P fn.params.toList s.vars false W args.toList ds gs before)
    (hl : laidOutB P = true) (hts : ∀ t ∈ fn.params.toList, P.readableRec t = true ∧ t < P.types.size) (hv : s.vars = [])
    (hres : (s.fn H (ds ++ gs)).results = [.lit (.bool true)]) (hargs : (s.fn H (ds ++ gs)).args = ds) (hvars : (s.fn H (ds ++ gs)).vars = [])
    (hrt : fn.resultTypes = #[t]) (ht : P.underlying t = some .bool) :
    Calls P f args W fun e W' => ∃ v, e = .returned v ∧ s.post enc P fn false true false false W args v W' := by
  refine (hC.2 (fun B => B < W.heap.size) W args.toList (fun B hB => hB) hrel.1 hrel.2).mono ?_
  rintro e W' ⟨c, S', rfl, hr, _, hk⟩
  cases hr
  have hb : Below W.heap.size W W' := ⟨hk.os, hk.tape, hk.output, hk.size, fun B hB => hk.block B hB id⟩
  refine ⟨_, rfl, ds, gs, before, [], before, [], hW, ?_, ?_, ?_, hb.frame _, fun h => by cases h⟩
  · rw [hres, hrt]
    exact trodAll_mk1 ⟨1, by simp [DataW.trod, Value.cells, ht]⟩
  · rw [hargs]
    obtain ⟨p, q, h1, h2, rfl, hz, hn⟩ := id hW
    rw [hv] at h2
    obtain ⟨rfl, rfl⟩ := trodVars_none h2
    rw [List.append_nil]
    exact trodAll_below hl hb hts h1 (fun x hx => hW.lt x (by simpa using hx))
  · rw [hvars, hv]; rfl
end

end Go.Proofs.Ythpapgbpmkgfeaa.AM
