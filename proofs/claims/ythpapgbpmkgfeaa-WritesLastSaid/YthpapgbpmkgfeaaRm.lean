/- Cells among a law's parameters. -/
import Derived.Test.YthpapgbpmkgfeaaRl
import Derived.Test.YthpapgbpmkgfeaaGn
set_option linter.all false
set_option maxRecDepth 100000
namespace Go.Proofs.Ythpapgbpmkgfeaa.AM
open Go Go.RowKit

theorem sh_bool {P : Program} {n t : Nat} {ds : List D} (ht : P.underlying t = some .bool) (h : Sh P (n + 1) t ds) : ∃ b, ds = [.bool b] := by
  simp only [Sh, ht] at h
  obtain ⟨b, rfl⟩ := h
  exact ⟨b, rfl⟩

theorem shE_C {n : Nat} {d : D} (h : ShE Try.prog (n + 2) 57 d) : ∃ w : Bool × Int, d = dC w ∧ True := by
  obtain ⟨ds, h1, rfl⟩ := h
  simp only [Sh, Try.underlying57, ShF] at h1
  obtain ⟨p, q, rfl, hp, p2, q2, rfl, hp2, rfl⟩ := h1
  obtain ⟨x, rfl⟩ := sh_bool (n := n) Try.underlying4 hp
  obtain ⟨y, rfl, _⟩ := sh_int (n := n) Try.underlying3 hp2
  exact ⟨(x, y), by simp [oneD, Try.underlying57, dC], trivial⟩

theorem shE_Cs {n : Nat} {d : D} (h : ShE Try.prog (n + 3) 53 d) : ∃ ws : List (Bool × Int), d = .vec (ws.map dC) ∧ ws.length ≤ maxLen ∧ True := by
  obtain ⟨ds, h1, rfl⟩ := h
  obtain ⟨xs, rfl, hl, _⟩ := sh_list Try.underlying53 (fun d h => shE_C (n := n) h) h1
  exact ⟨xs, by simp [oneD, Try.underlying53], hl, trivial⟩

end Go.Proofs.Ythpapgbpmkgfeaa.AM
