/- The types' facts, computed from the program. -/
import Derived.Test.YthpapgbpmkgfeaaAm15
set_option linter.all false
namespace Go.Proofs.Ythpapgbpmkgfeaa.AM
open Go Go.RowKit

def fieldsOf (P : Program) : List Field → Option (List (Nat × Nat))
  | [] => some []
  | f :: r => match P.info? f.type, fieldsOf P r with
    | some j, some rest => some ((f.offset, j.size) :: rest)
    | _, _ => none

def shapeOf (P : Program) : TypeDesc → Shape
  | .slice e => .slice e
  | .array n e => .array n e
  | .struct fields => match fieldsOf P fields.toList with
    | some fs => .struct fs
    | none => .other
  | .int k => .int k
  | .bool => .bool
  | _ => .other

def cmpFields (P : Program) : Nat → List Field → Option (List Bool)
  | _, [] => some []
  | i, f :: r => match cmpFields P (i + 1) r with
    | some rest => if f.name != "_" && f.offset == i then (match P.underlying f.type with
      | some (.int _) => some (false :: rest)
      | some .bool => some (true :: rest)
      | _ => none) else none
    | none => none

def cmpOf (P : Program) (t : Nat) (d : TypeDesc) : List Bool :=
  match d with
  | .struct fields => if !P.eqGuardType P.depth t && !P.stoodInHeld t then (match cmpFields P 0 fields.toList with
    | some l => l
    | none => []) else []
  | _ => []

/-- What the machine needs to know of the types. -/
def envOf (P : Program) : Env := fun t =>
  match P.info? t, P.underlying t with
  | some i, some d => match i.zero with
    | some z => if z.cells.size = i.size then some { agg := aggDesc d, cmp := cmpOf P t d, size := i.size, bytes := i.bytes, shape := shapeOf P d, zero := z.cells.toList.map ofVal } else none
    | none => none
  | _, _ => none

section
variable {P : Program}

theorem fieldsOf_ok : ∀ (fields : List Field) (fs : List (Nat × Nat)), fieldsOf P fields = some fs → fs.length = fields.length ∧ ∀ (i : Nat) (f : Field), fields[i]? = some f → ∃ j, P.info? f.type = some j ∧ fs[i]? = some (f.offset, j.size)
  | [], fs, h => by simp [fieldsOf] at h; subst h; exact ⟨rfl, fun i f h => by simp at h⟩
  | f :: r, fs, h => by
    simp only [fieldsOf] at h
    split at h
    · rename_i j rest hj hr
      simp at h; subst h
      obtain ⟨h1, h2⟩ := fieldsOf_ok r rest hr
      refine ⟨by simp [h1], fun i g hg => ?_⟩
      cases i with
      | zero => simp at hg; subst hg; exact ⟨j, hj, rfl⟩
      | succ i => exact h2 i g (by simpa using hg)
    · cases h

theorem shapeOf_ok (d : TypeDesc) : ShapeOk P d (shapeOf P d) := by
  unfold shapeOf
  split
  · rfl
  · rfl
  · split
    · rename_i fs hfs
      obtain ⟨h1, h2⟩ := fieldsOf_ok _ _ hfs
      exact ⟨_, rfl, by simpa using h1, fun i f hf => h2 i f (by simpa using hf)⟩
    · trivial
  · rfl
  · rfl
  · trivial

theorem cmpFields_ok : ∀ (fields : List Field) (n : Nat) (l : List Bool), cmpFields P n fields = some l → fields.length = l.length ∧
    ∀ (i : Nat) (f : Field), fields[i]? = some f → f.name ≠ "_" ∧ f.offset = n + i ∧ ((l[i]? = some false ∧ ∃ k, P.underlying f.type = some (.int k)) ∨ (l[i]? = some true ∧ P.underlying f.type = some .bool))
  | [], n, l, h => by simp [cmpFields] at h; subst h; exact ⟨rfl, fun i f h => by simp at h⟩
  | f :: r, n, l, h => by
    simp only [cmpFields] at h
    split at h
    · rename_i rest hr
      obtain ⟨h1, h2⟩ := cmpFields_ok r (n + 1) rest hr
      split at h
      · rename_i hc
        simp only [Bool.and_eq_true, bne_iff_ne, beq_iff_eq] at hc
        have tail : ∀ b, (f :: r).length = (b :: rest).length ∧ ((f.name ≠ "_" ∧ f.offset = n + 0 ∧ (((b :: rest)[0]? = some false ∧ ∃ k, P.underlying f.type = some (.int k)) ∨ ((b :: rest)[0]? = some true ∧ P.underlying f.type = some .bool))) →
            ∀ (i : Nat) (g : Field), (f :: r)[i]? = some g → g.name ≠ "_" ∧ g.offset = n + i ∧ (((b :: rest)[i]? = some false ∧ ∃ k, P.underlying g.type = some (.int k)) ∨ ((b :: rest)[i]? = some true ∧ P.underlying g.type = some .bool))) := fun b => by
          refine ⟨by simp [h1], fun h0 i g hg => ?_⟩
          cases i with
          | zero => simp at hg; subst hg; exact h0
          | succ i =>
            obtain ⟨q1, q2, q3⟩ := h2 i g (by simpa using hg)
            exact ⟨q1, by omega, by simpa using q3⟩
        split at h
        · rename_i k hk
          simp at h; subst h
          exact ⟨(tail false).1, (tail false).2 ⟨hc.1, by omega, .inl ⟨rfl, k, hk⟩⟩⟩
        · rename_i hk
          simp at h; subst h
          exact ⟨(tail true).1, (tail true).2 ⟨hc.1, by omega, .inr ⟨rfl, hk⟩⟩⟩
        · cases h
      · cases h
    · cases h

theorem cmpOf_ok {t : Nat} {d : TypeDesc} (h : cmpOf P t d ≠ []) : CmpOk P t d (cmpOf P t d) := by
  unfold cmpOf at h ⊢
  split at h
  · rename_i fields
    split at h
    · rename_i hc
      simp only [Bool.and_eq_true, Bool.not_eq_true'] at hc
      rw [if_pos (by simp [hc.1, hc.2])]
      split at h
      · rename_i l hl
        obtain ⟨h1, h2⟩ := cmpFields_ok _ _ _ hl
        refine ⟨hc.1, hc.2, fields, rfl, by simpa [hl] using h1, fun i f hf => ?_⟩
        obtain ⟨q1, q2, q3⟩ := h2 i f (by simpa using hf)
        exact ⟨q1, by omega, by simpa [hl] using q3⟩
      · exact absurd rfl h
    · exact absurd rfl h
  · exact absurd rfl h

theorem envOf_ok : EOk P (envOf P) := by
  intro t ti h
  unfold envOf at h
  split at h
  · rename_i i d hi hd
    split at h
    · rename_i z hz
      split at h
      · rename_i hs
        simp at h; subst h
        exact ⟨i, z, d, hi, rfl, rfl, hz, rfl, hs, hd, rfl, shapeOf_ok d, cmpOf_ok⟩
      · cases h
    · cases h
  · cases h

end
end Go.Proofs.Ythpapgbpmkgfeaa.AM
