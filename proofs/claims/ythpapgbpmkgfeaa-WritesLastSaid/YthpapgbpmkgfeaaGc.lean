/- Merges of sorted lists; a stable sort's result is one list. -/
import Derived.Test.YthpapgbpmkgfeaaFh
set_option linter.all false
namespace Go.Proofs.Ythpapgbpmkgfeaa.AM
open Go

section
variable {α : Type} {lt : α → α → Bool}

def mg (lt : α → α → Bool) (A B : List α) : List α := List.merge A B (fun x y => !lt y x)
theorem mg_nil (B : List α) : mg lt [] B = B := by simp [mg, List.merge]
theorem mg_nil' (A : List α) : mg lt A [] = A := by cases A <;> simp [mg, List.merge]
theorem mg_cons (a : α) (A : List α) (b : α) (B : List α) : mg lt (a :: A) (b :: B) = if lt b a = false then a :: mg lt A (b :: B) else b :: mg lt (a :: A) B := by
  simp only [mg]
  rw [List.merge]
  cases lt b a <;> simp
theorem mg_len : ∀ (A B : List α), (mg lt A B).length = A.length + B.length
  | [], B => by rw [mg_nil]; simp
  | a :: A, [] => by rw [mg_nil']; simp
  | a :: A, b :: B => by
    rw [mg_cons]
    split
    · simp [mg_len A (b :: B)]; omega
    · simp [mg_len (a :: A) B]; omega

theorem mg_split : ∀ (A1 B1 : List α) {A2 B2 : List α}, (∀ x ∈ A1, ∀ y ∈ B2, lt y x = false) → (∀ y ∈ B1, ∀ x ∈ A2, lt y x = true) → mg lt (A1 ++ A2) (B1 ++ B2) = mg lt A1 B1 ++ mg lt A2 B2
  | [], [], A2, B2, _, _ => by simp [mg_nil]
  | [], b :: B1, A2, B2, h1, h2 => by
    have ih := mg_split [] B1 (A2 := A2) (B2 := B2) (by simp) (fun y hy => h2 y (by simp [hy]))
    rw [mg_nil, List.nil_append] at *
    cases A2 with
    | nil => rw [mg_nil, mg_nil]
    | cons x A2 =>
      rw [List.cons_append, mg_cons, if_neg (by rw [h2 b (by simp) x (by simp)]; simp), ih]; rfl
  | a :: A1, [], A2, B2, h1, h2 => by
    have ih := mg_split A1 [] (A2 := A2) (B2 := B2) (fun x hx => h1 x (by simp [hx])) (by simp)
    rw [mg_nil', List.nil_append] at *
    cases B2 with
    | nil => rw [mg_nil', mg_nil']
    | cons y B2 =>
      rw [List.cons_append, mg_cons, if_pos (h1 a (by simp) y (by simp)), ih]; rfl
  | a :: A1, b :: B1, A2, B2, h1, h2 => by
    rw [List.cons_append, List.cons_append, mg_cons, mg_cons]
    split
    · have := mg_split A1 (b :: B1) (A2 := A2) (B2 := B2) (fun x hx => h1 x (by simp [hx])) h2
      rw [← List.cons_append, this]; rfl
    · have := mg_split (a :: A1) B1 (A2 := A2) (B2 := B2) h1 (fun y hy => h2 y (by simp [hy]))
      rw [← List.cons_append, this]; rfl

theorem mg_one {x : α} {B1 B2 : List α} (h1 : ∀ y ∈ B1, lt y x = true) (h2 : ∀ y ∈ B2, lt y x = false) : mg lt [x] (B1 ++ B2) = B1 ++ x :: B2 := by
  have := mg_split [] B1 (A2 := [x]) (B2 := B2) (lt := lt) (by simp) (fun y hy z hz => by simp at hz; subst hz; exact h1 y hy)
  rw [List.nil_append, mg_nil] at this
  rw [this]
  have := mg_split [x] [] (A2 := []) (B2 := B2) (lt := lt) (fun z hz y hy => by simp at hz; subst hz; exact h2 y hy) (by simp)
  rw [List.append_nil, List.nil_append, mg_nil', mg_nil] at this
  rw [this]; rfl

theorem mg_one' {y : α} {A1 A2 : List α} (h1 : ∀ x ∈ A1, lt y x = false) (h2 : ∀ x ∈ A2, lt y x = true) : mg lt (A1 ++ A2) [y] = A1 ++ y :: A2 := by
  have := mg_split A1 [] (A2 := A2) (B2 := [y]) (lt := lt) (fun x hx z hz => by simp at hz; subst hz; exact h1 x hx) (by simp)
  rw [List.nil_append, mg_nil'] at this
  rw [this]
  have := mg_split [] [y] (A2 := A2) (B2 := []) (lt := lt) (by simp) (fun z hz x hx => by simp at hz; subst hz; exact h2 x hx)
  rw [List.append_nil, List.nil_append, mg_nil', mg_nil] at this
  rw [this]; rfl

/-- No later one is less than an earlier one. -/
def Srt (lt : α → α → Bool) (l : List α) : Prop := ∀ (i j : Nat) (x y : α), i < j → l[i]? = some x → l[j]? = some y → lt y x = false

theorem Srt.take {l : List α} (h : Srt lt l) (n : Nat) : Srt lt (l.take n) := fun i j x y hij hx hy => by
  rw [List.getElem?_take] at hx hy
  split at hx
  · split at hy
    · exact h i j x y hij hx hy
    · cases hy
  · cases hx
theorem Srt.drop {l : List α} (h : Srt lt l) (n : Nat) : Srt lt (l.drop n) := fun i j x y hij hx hy => by
  rw [List.getElem?_drop] at hx hy
  exact h (n + i) (n + j) x y (by omega) hx hy

/-- What the search for the cut has found. A's first i, B's first j; i + j is fixed. -/
theorem cut_ok (hnt : ∀ x y z, lt x y = false → lt y z = false → lt x z = false) (hir : ∀ x, lt x x = false) {A B : List α} (hA : Srt lt A) (hB : Srt lt B) {i j : Nat}
    (hi : i ≤ A.length) (hj : j ≤ B.length) (h1 : 0 < i → j < B.length → ∀ x y, A[i - 1]? = some x → B[j]? = some y → lt y x = false)
    (h2 : i < A.length → 0 < j → ∀ x y, A[i]? = some x → B[j - 1]? = some y → lt y x = true) :
    (∀ x ∈ A.take i, ∀ y ∈ B.drop j, lt y x = false) ∧ (∀ y ∈ B.take j, ∀ x ∈ A.drop i, lt y x = true) := by
  have le' : ∀ {l : List α}, Srt lt l → ∀ {p q : Nat} {x y : α}, p ≤ q → l[p]? = some x → l[q]? = some y → lt y x = false := by
    intro l hl p q x y hpq hx hy
    rcases Nat.lt_or_ge p q with h | h
    · exact hl p q x y h hx hy
    · obtain rfl : p = q := by omega
      rw [hx] at hy; cases hy; exact hir x
  constructor
  · intro x hx y hy
    obtain ⟨p, hp⟩ := List.getElem?_of_mem hx
    obtain ⟨q, hq⟩ := List.getElem?_of_mem hy
    rw [List.getElem?_take] at hp
    rw [List.getElem?_drop] at hq
    split at hp
    · rename_i hpi
      have hjl : j + q < B.length := (List.getElem?_eq_some_iff.1 hq).1
      have hpl : p < A.length := (List.getElem?_eq_some_iff.1 hp).1
      have e1 : A[i - 1]? = some (A[i - 1]'(by omega)) := List.getElem?_eq_getElem (by omega)
      have e2 : B[j]? = some (B[j]'(by omega)) := List.getElem?_eq_getElem (by omega)
      have := h1 (by omega) (by omega) _ _ e1 e2
      exact hnt _ _ _ (hnt _ _ _ (le' hB (by omega) e2 hq) this) (le' hA (by omega) hp e1)
    · cases hp
  · intro y hy x hx
    obtain ⟨p, hp⟩ := List.getElem?_of_mem hx
    obtain ⟨q, hq⟩ := List.getElem?_of_mem hy
    rw [List.getElem?_drop] at hp
    rw [List.getElem?_take] at hq
    split at hq
    · have hil : i + p < A.length := (List.getElem?_eq_some_iff.1 hp).1
      have hql : q < B.length := (List.getElem?_eq_some_iff.1 hq).1
      have e1 : A[i]? = some (A[i]'(by omega)) := List.getElem?_eq_getElem (by omega)
      have e2 : B[j - 1]? = some (B[j - 1]'(by omega)) := List.getElem?_eq_getElem (by omega)
      have := h2 (by omega) (by omega) _ _ e1 e2
      cases h : lt y x with
      | true => rfl
      | false =>
        have h3 := hnt _ _ _ (hnt _ _ _ (le' hB (by omega) hq e2) h) (le' hA (by omega) e1 hp)
        rw [h3] at this; cases this
    · cases hq

end
end Go.Proofs.Ythpapgbpmkgfeaa.AM
