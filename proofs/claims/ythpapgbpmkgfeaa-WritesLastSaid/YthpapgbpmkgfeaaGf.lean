/- The insertion sort is the merge of the two parts' sorts. -/
import Derived.Test.YthpapgbpmkgfeaaGc
set_option linter.all false
namespace Go.Proofs.Ythpapgbpmkgfeaa.AM
open Go

section
variable {α : Type} {lt : α → α → Bool}

theorem mg_mem {y : α} : ∀ {A B : List α}, y ∈ mg lt A B → y ∈ A ∨ y ∈ B
  | [], B, h => by rw [mg_nil] at h; exact .inr h
  | a :: A, [], h => by rw [mg_nil'] at h; exact .inl h
  | a :: A, b :: B, h => by
    rw [mg_cons] at h
    split at h
    · rcases List.mem_cons.1 h with rfl | h
      · exact .inl (by simp)
      · rcases mg_mem h with h | h
        · exact .inl (by simp [h])
        · exact .inr h
    · rcases List.mem_cons.1 h with rfl | h
      · exact .inr (by simp)
      · rcases mg_mem h with h | h
        · exact .inl h
        · exact .inr (by simp [h])

def PW (lt : α → α → Bool) (l : List α) : Prop := l.Pairwise (fun x y => lt y x = false)

theorem PW.srt {l : List α} (h : PW lt l) : Srt lt l := fun i j x y hij hx hy => by
  obtain ⟨hi, rfl⟩ := List.getElem?_eq_some_iff.1 hx
  obtain ⟨hj, rfl⟩ := List.getElem?_eq_some_iff.1 hy
  exact List.pairwise_iff_getElem.1 h i j hi hj hij

theorem cut_at (hnt : ∀ x y z, lt x y = false → lt y z = false → lt x z = false) {l : List α} (h : PW lt l) (x : α) : ∃ l1 l2, l = l1 ++ l2 ∧ (∀ y ∈ l1, lt x y = false) ∧ (∀ y ∈ l2, lt x y = true) := by
  induction l with
  | nil => exact ⟨[], [], rfl, by simp, by simp⟩
  | cons a r ih =>
    obtain ⟨h1, h2⟩ := List.pairwise_cons.1 h
    cases hx : lt x a with
    | true =>
      refine ⟨[], a :: r, rfl, by simp, fun y hy => ?_⟩
      rcases List.mem_cons.1 hy with rfl | hy
      · exact hx
      · cases hd : lt x y with
        | true => rfl
        | false => have := hnt x y a hd (h1 y hy); rw [hx] at this; cases this
    | false =>
      obtain ⟨l1, l2, rfl, g1, g2⟩ := ih h2
      refine ⟨a :: l1, l2, rfl, fun y hy => ?_, g2⟩
      rcases List.mem_cons.1 hy with rfl | hy
      · exact hx
      · exact g1 y hy

theorem insR_cut {l1 l2 : List α} {x : α} (h1 : ∀ y ∈ l1, lt x y = false) (h2 : ∀ y ∈ l2, lt x y = true) : insR lt x (l1 ++ l2) = l1 ++ x :: l2 := by
  have : insK lt x (l1 ++ l2) = l1.length := by
    refine insK_eq (by simp) (fun i hi y hy => ?_) ?_
    · rw [List.getElem?_append_right hi] at hy
      exact h2 y (List.mem_of_getElem? hy)
    · rcases Nat.eq_zero_or_pos l1.length with h | h
      · exact .inl h
      · refine .inr ⟨l1[l1.length - 1]'(by omega), ?_, h1 _ (List.getElem_mem _)⟩
        rw [List.getElem?_append_left (by omega), List.getElem?_eq_getElem (by omega)]
  unfold insR
  rw [this, List.take_left' rfl, List.drop_left' rfl]

theorem insR_pw (hnt : ∀ x y z, lt x y = false → lt y z = false → lt x z = false) (has : ∀ x y, lt x y = true → lt y x = false) {l : List α} (h : PW lt l) (x : α) : PW lt (insR lt x l) := by
  obtain ⟨l1, l2, rfl, g1, g2⟩ := cut_at hnt h x
  rw [insR_cut g1 g2]
  obtain ⟨p1, p2, p3⟩ := List.pairwise_append.1 h
  refine List.pairwise_append.2 ⟨p1, List.pairwise_cons.2 ⟨fun y hy => has _ _ (g2 y hy), p2⟩, fun a ha b hb => ?_⟩
  rcases List.mem_cons.1 hb with rfl | hb
  · exact g1 a ha
  · exact p3 a ha b hb

theorem isort_pw (hnt : ∀ x y z, lt x y = false → lt y z = false → lt x z = false) (has : ∀ x y, lt x y = true → lt y x = false) (l : List α) : PW lt (isort lt l) := by
  have : ∀ (l A : List α), PW lt A → PW lt (l.foldl (fun A x => insR lt x A) A) := by
    intro l
    induction l with
    | nil => intro A h; exact h
    | cons x l ih => intro A h; exact ih _ (insR_pw hnt has h x)
  exact this l [] List.Pairwise.nil

theorem mg_pw (hnt : ∀ x y z, lt x y = false → lt y z = false → lt x z = false) (has : ∀ x y, lt x y = true → lt y x = false) : ∀ {A B : List α}, PW lt A → PW lt B → PW lt (mg lt A B)
  | [], B, _, h => by rw [mg_nil]; exact h
  | a :: A, [], h, _ => by rw [mg_nil']; exact h
  | a :: A, b :: B, h, h' => by
    obtain ⟨h1, h2⟩ := List.pairwise_cons.1 h
    obtain ⟨h1', h2'⟩ := List.pairwise_cons.1 h'
    rw [mg_cons]
    split
    · rename_i hab
      refine List.pairwise_cons.2 ⟨fun y hy => ?_, mg_pw hnt has h2 h'⟩
      rcases mg_mem hy with hy | hy
      · exact h1 y hy
      · rcases List.mem_cons.1 hy with rfl | hy
        · exact hab
        · exact hnt _ _ _ (h1' y hy) hab
    · rename_i hab
      have hab' : lt b a = true := by simpa using hab
      refine List.pairwise_cons.2 ⟨fun y hy => ?_, mg_pw hnt has h h2'⟩
      rcases mg_mem hy with hy | hy
      · rcases List.mem_cons.1 hy with rfl | hy
        · exact has _ _ hab'
        · exact hnt _ _ _ (h1 y hy) (has _ _ hab')
      · exact h1' y hy

theorem mg_insR (hnt : ∀ x y z, lt x y = false → lt y z = false → lt x z = false) (has : ∀ x y, lt x y = true → lt y x = false) {L M : List α} (hL : PW lt L) (hM : PW lt M) (x : α) : mg lt L (insR lt x M) = insR lt x (mg lt L M) := by
  obtain ⟨L1, L2, rfl, a1, a2⟩ := cut_at hnt hL x
  obtain ⟨M1, M2, rfl, b1, b2⟩ := cut_at hnt hM x
  have c1 : ∀ l ∈ L1, ∀ m ∈ M2, lt m l = false := fun l hl m hm => hnt m x l (has _ _ (b2 m hm)) (a1 l hl)
  have c2 : ∀ m ∈ M1, ∀ l ∈ L2, lt m l = true := fun m hm l hl => by
    cases hd : lt m l with
    | true => rfl
    | false => have := hnt x m l (b1 m hm) hd; rw [a2 l hl] at this; cases this
  rw [insR_cut b1 b2, mg_split L1 M1 c1 c2, insR_cut (fun y hy => by rcases mg_mem hy with h | h; exact a1 y h; exact b1 y h) (fun y hy => by rcases mg_mem hy with h | h; exact a2 y h; exact b2 y h)]
  have e1 : M1 ++ x :: M2 = (M1 ++ [x]) ++ M2 := by simp
  rw [e1, mg_split L1 (M1 ++ [x]) c1 (fun y hy l hl => by
    rcases List.mem_append.1 hy with hy | hy
    · exact c2 y hy l hl
    · simp at hy; subst hy; exact a2 l hl)]
  have e2 := mg_split L1 M1 (A2 := []) (B2 := [x]) (lt := lt) (fun l hl y hy => by simp at hy; subst hy; exact a1 l hl) (by simp)
  rw [List.append_nil, mg_nil] at e2
  rw [e2]; simp

theorem isort_mg (hnt : ∀ x y z, lt x y = false → lt y z = false → lt x z = false) (has : ∀ x y, lt x y = true → lt y x = false) (A B : List α) : mg lt (isort lt A) (isort lt B) = isort lt (A ++ B) := by
  have : ∀ (n : Nat) (B : List α), B.length = n → mg lt (isort lt A) (isort lt B) = isort lt (A ++ B) := by
    intro n
    induction n with
    | zero => intro B hB; rw [List.length_eq_zero_iff.1 hB]; simp [isort, mg_nil']
    | succ n ih =>
      intro B hB
      have hne : B ≠ [] := fun e => by rw [e] at hB; simp at hB
      have e := List.dropLast_concat_getLast hne
      rw [← e, isort_snoc, mg_insR hnt has (isort_pw hnt has A) (isort_pw hnt has _), ih _ (by simp; omega), ← isort_snoc, List.append_assoc]
  exact this B.length B rfl

end
end Go.Proofs.Ythpapgbpmkgfeaa.AM
