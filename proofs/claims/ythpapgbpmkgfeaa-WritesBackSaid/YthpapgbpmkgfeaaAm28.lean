/- What a parameter's cells are, by its type; bounds of whole numbers. -/
import Derived.Test.YthpapgbpmkgfeaaAm27
set_option linter.all false
namespace Go.Proofs.Ythpapgbpmkgfeaa.AM
open Go Go.RowKit Go.ChangeShapes Go.WideShapes Go.ChangeAt

theorem shE_int {P : Program} {n t : Nat} {k : IntKind} {d : D} (ht : P.underlying t = some (.int k)) (h : ShE P (n + 1) t d) : ∃ x, d = .int k x ∧ k.min ≤ x ∧ x ≤ k.max := by
  obtain ⟨ds, h1, rfl⟩ := h
  simp only [Sh, ht] at h1
  obtain ⟨x, rfl, hw⟩ := h1
  exact ⟨x, by simp [oneD, ht], by simpa [Lit.wf] using hw⟩

/-- A slice of whole numbers. -/
theorem shE_ints {P : Program} {n t e : Nat} {k : IntKind} {d : D} (ht : P.underlying t = some (.slice e)) (he : P.underlying e = some (.int k)) (h : ShE P (n + 2) t d) :
    ∃ xs : List Int, d = .vec (xs.map (D.int k)) ∧ xs.length ≤ maxLen ∧ ∀ x ∈ xs, k.min ≤ x ∧ x ≤ k.max := by
  obtain ⟨ds, h1, rfl⟩ := h
  simp only [Sh, ht] at h1
  obtain ⟨els, rfl, hl, hw⟩ := h1
  simp only [he] at hw
  have : ∀ els : List (List D), (∀ x ∈ els, ∃ y, x = [D.int k y] ∧ (Lit.int k y).wf = true) → ∃ xs : List Int, xs.length = els.length ∧ els.map (oneD P e) = xs.map (D.int k) ∧ ∀ x ∈ xs, k.min ≤ x ∧ x ≤ k.max := by
    intro els
    induction els with
    | nil => exact fun _ => ⟨[], rfl, rfl, by simp⟩
    | cons a r ih =>
      intro h
      obtain ⟨y, rfl, hy⟩ := h a (by simp)
      obtain ⟨xs, h1, h2, h3⟩ := ih (fun x hx => h x (by simp [hx]))
      refine ⟨y :: xs, by simp [h1], by simp [h2, oneD, he], ?_⟩
      intro x hx
      rcases List.mem_cons.1 hx with rfl | hx
      · simpa [Lit.wf] using hy
      · exact h3 x hx
  obtain ⟨xs, h1, h2, h3⟩ := this els hw
  exact ⟨xs, by simp [oneD, ht, h2], by omega, h3⟩

end Go.Proofs.Ythpapgbpmkgfeaa.AM
