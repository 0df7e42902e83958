/- Logs and writes among a law's parameters. -/
import Derived.Test.YthpapgbpmkgfeaaAm26
import Derived.Test.YthpapgbpmkgfeaaFb
set_option linter.all false
set_option maxRecDepth 100000
namespace Go.Proofs.Ythpapgbpmkgfeaa.AM
open Go Go.RowKit

theorem sh_int {P : Program} {n t : Nat} {k : IntKind} {ds : List D} (ht : P.underlying t = some (.int k)) (h : Sh P (n + 1) t ds) : ∃ x, ds = [.int k x] ∧ k.min ≤ x ∧ x ≤ k.max := by
  simp only [Sh, ht] at h
  obtain ⟨x, rfl, hw⟩ := h
  exact ⟨x, rfl, by simpa [Lit.wf] using hw⟩

theorem sh_list {P : Program} {n t e : Nat} {α : Type} {f : α → D} {g : α → Prop} {ds : List D} (ht : P.underlying t = some (.slice e)) (he : ∀ d, ShE P n e d → ∃ x, d = f x ∧ g x) (h : Sh P (n + 1) t ds) :
    ∃ xs : List α, ds = [.vec (xs.map f)] ∧ xs.length ≤ maxLen ∧ ∀ x ∈ xs, g x := by
  simp only [Sh, ht] at h
  obtain ⟨els, rfl, hl, hw⟩ := h
  have : ∀ els : List (List D), (∀ x ∈ els, Sh P n e x) → ∃ xs : List α, xs.length = els.length ∧ els.map (oneD P e) = xs.map f ∧ ∀ x ∈ xs, g x := by
    intro els
    induction els with
    | nil => exact fun _ => ⟨[], rfl, rfl, by simp⟩
    | cons a r ih =>
      intro h
      obtain ⟨y, hy, hg⟩ := he (oneD P e a) ⟨a, h a (by simp), rfl⟩
      obtain ⟨xs, h1, h2, h3⟩ := ih (fun x hx => h x (by simp [hx]))
      refine ⟨y :: xs, by simp [h1], by simp [h2, hy], ?_⟩
      intro x hx
      rcases List.mem_cons.1 hx with rfl | hx
      · exact hg
      · exact h3 x hx
  obtain ⟨xs, h1, h2, h3⟩ := this els hw
  exact ⟨xs, by rw [h2], by omega, h3⟩

theorem shE_W {n : Nat} {d : D} (h : ShE Try.prog (n + 2) 27 d) : ∃ w : Int × Int, d = dW w ∧ True := by
  obtain ⟨ds, h1, rfl⟩ := h
  simp only [Sh, Try.underlying27, ShF] at h1
  obtain ⟨p, q, rfl, hp, p2, q2, rfl, hp2, rfl⟩ := h1
  obtain ⟨x, rfl, _⟩ := sh_int (n := n) Try.underlying3 hp
  obtain ⟨y, rfl, _⟩ := sh_int (n := n) Try.underlying3 hp2
  exact ⟨(x, y), by simp [oneD, Try.underlying27, dW], trivial⟩

theorem shE_bool {P : Program} {n t : Nat} {d : D} (ht : P.underlying t = some .bool) (h : ShE P (n + 1) t d) : ∃ b, d = .bool b := by
  obtain ⟨ds, h1, rfl⟩ := h
  simp only [Sh, ht] at h1
  obtain ⟨b, rfl⟩ := h1
  exact ⟨b, by simp [oneD, ht]⟩

theorem shE_int1 {n : Nat} {d : D} (h : ShE Try.prog (n + 1) 3 d) : ∃ w : Int, d = dI w ∧ True := by
  obtain ⟨x, h1, _⟩ := shE_int Try.underlying3 h
  exact ⟨x, h1, trivial⟩

theorem shE_Ws {n : Nat} {d : D} (h : ShE Try.prog (n + 3) 22 d) : ∃ ws : List (Int × Int), d = .vec (ws.map dW) ∧ ws.length ≤ maxLen ∧ True := by
  obtain ⟨ds, h1, rfl⟩ := h
  obtain ⟨xs, rfl, hl, _⟩ := sh_list Try.underlying22 (fun d h => shE_W (n := n) h) h1
  exact ⟨xs, by simp [oneD, Try.underlying22], hl, trivial⟩

theorem shE_Log {n : Nat} {d : D} (h : ShE Try.prog (n + 4) 25 d) : ∃ L : Lg, d = dLg L ∧ L.1.length ≤ maxLen ∧ L.2.length ≤ maxLen := by
  obtain ⟨ds, h1, rfl⟩ := h
  simp only [Sh, Try.underlying25, ShF] at h1
  obtain ⟨p, q, rfl, hp, p2, q2, rfl, hp2, rfl⟩ := h1
  obtain ⟨xs, rfl, hl, _⟩ := sh_list (n := n + 2) Try.underlying22 (fun d h => shE_W (n := n) h) (by simpa only [Sh] using hp)
  obtain ⟨ys, rfl, hl2, _⟩ := sh_list (n := n + 2) Try.underlying23 (fun d h => shE_int1 (n := n + 1) h) (by simpa only [Sh] using hp2)
  exact ⟨(xs, ys), by simp [oneD, Try.underlying25, dLg], hl, hl2⟩

end Go.Proofs.Ythpapgbpmkgfeaa.AM
