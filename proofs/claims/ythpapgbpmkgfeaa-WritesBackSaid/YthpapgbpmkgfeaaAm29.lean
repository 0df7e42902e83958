/- A result in own blocks, as closed data. -/
import Derived.Test.YthpapgbpmkgfeaaAm25
set_option linter.all false
namespace Go.Proofs.Ythpapgbpmkgfeaa.AM
open Go Go.RowKit

theorem FSpec.cspec {P : Program} {f : Nat} {args : List D} {r : V} {H1 : Heap} {d : D} (h : FSpec P f args r H1) (hx : xport H1 12 r = some d) : CSpec P f args d := by
  refine ⟨h.1, fun S0 w cs hS0 hlen hrel => (h.2 S0 w cs hS0 hlen hrel).mono ?_⟩
  rintro e w' ⟨c, φ1, S1, rfl, hr, hH1, hk⟩
  refine ⟨c, fun B => (S0 B ∨ w.heap.size ≤ B) ∧ B < w'.heap.size, rfl, ?_, fun B hB => hB, hk⟩
  have hv1 : ∀ B, S1 B → S0 B ∨ w.heap.size ≤ B := fun B hB => by
    rcases hH1.vis B hB with h | h | h
    · exact .inl h
    · exact h.elim
    · exact .inr h
  have hv2 : ∀ i L, φ1 i = some L → S0 L.blk ∨ w.heap.size ≤ L.blk := fun i L hL => by
    rcases hH1.own i L hL with h | h
    · exact h.elim
    · exact .inr h
  exact xport_rel hH1 (fun B hB => ⟨hv1 B hB, hH1.low B hB⟩) 12 r c d (fun i _ L hL => ⟨hv2 i L hL, hH1.lt hL⟩) hr hx


end Go.Proofs.Ythpapgbpmkgfeaa.AM
