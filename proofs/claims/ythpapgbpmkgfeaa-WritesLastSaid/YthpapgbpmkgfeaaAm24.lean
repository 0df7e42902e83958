/- A call that writes what is its caller's own. -/
import Derived.Test.YthpapgbpmkgfeaaAm23
set_option linter.all false
namespace Go.Proofs.Ythpapgbpmkgfeaa.AM
open Go Go.RowKit

section
variable {P : Program} {E : Env} {n m : Nat} {φ φ' : Nat → Option Loc} {S S' : Nat → Prop} {H H' : Heap} {w : World} {ρ : Nat → Nat}

/-- The callee's numbers as the caller's. -/
def frρ (l : List Nat) (k : Nat) : Nat → Nat := fun j => (l[j]?).getD (k + (j - l.length))

def putL (H : Heap) : List Nat → List Blk → Heap
  | i :: l, b :: bs => putL (hput H i b) l bs
  | _, _ => H

def frameH (H : Heap) (l : List Nat) (H1 : Heap) : Heap := putL H l (H1.map (Blk.ren (frρ l H.length))) ++ (H1.drop l.length).map (Blk.ren (frρ l H.length))

theorem hput_length : ∀ (H : Heap) (i : Nat) (b : Blk), i < H.length → (hput H i b).length = H.length
  | [], i, b, h => by simp at h
  | x :: H, 0, b, h => rfl
  | x :: H, i + 1, b, h => by simp only [hput, List.length_cons, hput_length H i b (by simpa using h)]

theorem putL_length : ∀ (l : List Nat) (bs : List Blk) (H : Heap), (∀ i ∈ l, i < H.length) → (putL H l bs).length = H.length
  | [], bs, H, _ => by cases bs <;> rfl
  | i :: l, [], H, _ => rfl
  | i :: l, b :: bs, H, h => by
    have h1 := hput_length H i b (h i (List.mem_cons_self ..))
    simp only [putL]
    rw [putL_length l bs (hput H i b) (fun j hj => by rw [h1]; exact h j (List.mem_cons_of_mem _ hj)), h1]

theorem putL_not : ∀ (l : List Nat) (bs : List Blk) (H : Heap) (i : Nat), i ∉ l → hget (putL H l bs) i = hget H i
  | [], bs, H, i, _ => by cases bs <;> rfl
  | j :: l, [], H, i, _ => rfl
  | j :: l, b :: bs, H, i, h => by
    simp only [List.mem_cons, not_or] at h
    simp only [putL]
    rw [putL_not l bs _ i h.2, hget_hput, if_neg h.1]

theorem putL_at : ∀ (l : List Nat) (bs : List Blk) (H : Heap) (i j : Nat) (b : Blk), l.Nodup → l[j]? = some i → bs[j]? = some b → hget (putL H l bs) i = b
  | [], bs, H, i, j, b, _, h, _ => by simp at h
  | k :: l, [], H, i, j, b, _, _, h => by simp at h
  | k :: l, b0 :: bs, H, i, j, b, hnd, hl, hb => by
    simp only [putL]
    have hnd' := List.nodup_cons.1 hnd
    cases j with
    | zero =>
      simp at hl hb
      subst hl; subst hb
      rw [putL_not l bs _ k hnd'.1, hget_hput, if_pos rfl]
    | succ j => exact putL_at l bs _ i j b hnd'.2 (by simpa using hl) (by simpa using hb)

theorem hget_getElem : ∀ (H : Heap) (i : Nat), hget H i = (H[i]?).getD .unborn
  | [], i => rfl
  | b :: H, 0 => rfl
  | b :: H, i + 1 => by simp only [hget, List.getElem?_cons_succ]; exact hget_getElem H i

theorem RenL.of_ren : ∀ (vs : List V), RenL ρ H' vs (renL ρ vs)
  | [] => .nil
  | v :: r => .cons (.same v) (RenL.of_ren r)

theorem renL_ds (l : List D) : renL ρ (l.map V.d) = l.map V.d := by
  rw [renL_map, List.map_map]; rfl

theorem lowerL_ds (k : Nat) : ∀ (l : List D), lowerL k (l.map V.d) = true
  | [] => rfl
  | _ :: r => by simp [lowerL, V.lower, lowerL_ds k r]

theorem frρ_lt {l : List Nat} {k j : Nat} (h : j < l.length) : frρ l k j = l[j] := by simp [frρ, h]
theorem frρ_ge {l : List Nat} {k j : Nat} (h : l.length ≤ j) : frρ l k j = k + (j - l.length) := by simp [frρ, List.getElem?_eq_none h]

theorem RSpec.frame {f : Nat} {vs0 : List V} {H0 H1 : Heap} {r : V} (h : RSpec P f vs0 H0 r H1) (l : List Nat) (hnd : l.Nodup) (hlen : l.length = H0.length) (hlen1 : H0.length ≤ H1.length) (hlt : ∀ i ∈ l, i < H.length)
    (hB : ∀ j, j < H0.length → hget H0 j ≠ .unborn ∧ hget H (frρ l H.length j) = (hget H0 j).ren (frρ l H.length)) :
    RSpec P f (renL (frρ l H.length) vs0) H (r.ren (frρ l H.length)) (frameH H l H1) := by
  have ρin : ∀ j, j < H0.length → frρ l H.length j < H.length ∧ frρ l H.length j ∈ l := fun j hj => by
    rw [frρ_lt (by omega)]; exact ⟨hlt _ (List.getElem_mem _), List.getElem_mem _⟩
  have ρout : ∀ j, H0.length ≤ j → H.length ≤ frρ l H.length j := fun j hj => by rw [frρ_ge (by omega)]; omega
  have ρinj : ∀ i j, frρ l H.length i = frρ l H.length j → i = j := fun i j e => by
    by_cases hi : i < H0.length
    · by_cases hj : j < H0.length
      · rw [frρ_lt (by omega), frρ_lt (by omega)] at e; exact (List.getElem_inj hnd).1 e
      · have := ρin i hi; have := ρout j (by omega); omega
    · by_cases hj : j < H0.length
      · have := ρin j hj; have := ρout i (by omega); omega
      · rw [frρ_ge (by omega), frρ_ge (by omega)] at e; omega
  -- the frame's heap
  have g1 : ∀ j, hget (frameH H l H1) (frρ l H.length j) = (hget H1 j).ren (frρ l H.length) := fun j => by
    have hL := putL_length l (H1.map (Blk.ren (frρ l H.length))) H hlt
    unfold frameH
    rw [hget_app, hL]
    by_cases hj : j < H0.length
    · rw [if_pos (ρin j hj).1]
      have hj1 : j < H1.length := by omega
      rw [putL_at l _ H _ j ((H1[j]).ren (frρ l H.length)) hnd (by rw [frρ_lt (by omega)]; exact List.getElem?_eq_getElem (by omega)) (by simp [hj1])]
      rw [hget_getElem H1 j, List.getElem?_eq_getElem hj1]; rfl
    · have := ρout j (by omega)
      rw [if_neg (by omega), frρ_ge (by omega)]
      rw [hget_getElem, hget_getElem]
      have e : H.length + (j - l.length) - H.length = j - l.length := by omega
      rw [e, List.getElem?_map, List.getElem?_drop]
      have e2 : l.length + (j - l.length) = j := by omega
      rw [e2]
      cases H1[j]? <;> rfl
  have g2 : ∀ i, (∀ j, frρ l H.length j ≠ i) → hget (frameH H l H1) i = hget H i := fun i hi => by
    have hL := putL_length l (H1.map (Blk.ren (frρ l H.length))) H hlt
    have hi1 : i < H.length := Classical.byContradiction fun hn => by
      have := hi (l.length + (i - H.length))
      rw [frρ_ge (by omega)] at this; omega
    have hi2 : i ∉ l := fun hm => by
      obtain ⟨j, hj, e⟩ := List.getElem_of_mem hm
      exact hi j (by rw [frρ_lt hj]; exact e)
    unfold frameH
    rw [hget_app, hL, if_pos hi1, putL_not l _ H i hi2]
  refine ⟨h.1, ?_⟩
  intro C φ S w cs hH hv
  have hno : ∀ i, hget H0 i ≠ .unborn → i < H0.length := fun i hu => Classical.byContradiction fun hn => hu (hget_length H0 i (by omega))
  have hrb : ∀ i, hget H0 i ≠ .unborn → RenB (frρ l H.length) H H0 i := fun i hu => by
    have hb := (hB i (hno i hu)).2
    cases hx : hget H0 i with
    | unborn => exact absurd hx hu
    | dead => exact .dead hx
    | box fz cells => rw [hx] at hb; exact .box fz _ cells hx hb (RenL.of_ren cells)
    | dat fz sz els => rw [hx] at hb; exact .dat fz sz els hx hb
  have hun : ∀ i, hget H0 i = .unborn → hget H (frρ l H.length i) = .unborn := fun i hu => by
    have : H0.length ≤ i := Classical.byContradiction fun hn => (hB i (by omega)).1 hu
    exact hget_length H _ (ρout i this)
  -- what the callee sees
  obtain ⟨φ0, S0, p1, p2, p3⟩ : ∃ φ0 : Nat → Option Loc, ∃ S0 : Nat → Prop, HRel C φ0 S0 H0 w ∧ RVs φ0 S0 H0 w vs0 cs ∧ (∀ i, i < H0.length → hget H0 i ≠ .dead → φ0 i = φ (frρ l H.length i)) ∧ (∀ i L, φ0 i = some L → φ (frρ l H.length i) = some L) ∧ S0 = S := by
    refine ⟨φren φ (frρ l H.length) H0, S, ?_, RVs.ren hrb hun vs0 cs hv, fun i hi hd => ?_, fun i L hL => ?_, rfl⟩
    · exact Weak.ren_heap hH hrb hun (fun i j _ _ e _ => ρinj i j e)
    · simp only [φren]
      cases hx : hget H0 i with
      | unborn => exact absurd hx (hB i hi).1
      | dead => exact absurd hx hd
      | _ => rfl
    · simp only [φren] at hL
      split at hL
      · cases hL
      · cases hL
      · exact hL
  obtain ⟨p3, p4, rfl⟩ := p3
  have hC' : HRel ⟨w.heap.size, fun B => ∃ i L, φ0 i = some L ∧ L.blk = B, S0⟩ φ0 S0 H0 w := ⟨Nat.le_refl _, fun i L hL => .inl ⟨i, L, hL, rfl⟩, fun B hB => .inl hB, p1.inj, p1.blk, p1.low⟩
  refine (h.2 _ φ0 S0 w cs hC' p2).mono ?_
  rintro e w' ⟨c, φ1, S1, rfl, hr, hH1, hs1, hk⟩
  have hsame : ∀ B, B < w.heap.size → (∀ i L, φ0 i = some L → L.blk ≠ B) → w'.heap[B]? = w.heap[B]? := fun B hB ho => hk.block B hB (fun ⟨i, L, hL, e⟩ => ho i L hL e)
  have hS1 : ∀ B, S1 B → S0 B ∨ (∃ i L, φ0 i = some L ∧ L.blk = B) ∨ w.heap.size ≤ B := fun B hB => hH1.vis B hB
  have hS01 : ∀ B, S0 B → S1 B := fun B hB => (hs1.keepS B hB (p1.low B hB)).1
  -- the callee's own
  have hown1 : ∀ i L, φ1 i = some L → (∃ j L', φ0 j = some L' ∧ L'.blk = L.blk) ∨ w.heap.size ≤ L.blk := fun i L hL => hH1.own i L hL
  -- an old one of the caller's that the callee does not know
  have hfar : ∀ i L, φ i = some L → (∀ j, frρ l H.length j ≠ i) → ∀ j L', φ0 j = some L' → L'.blk ≠ L.blk := fun i L hL hi j L' hL' e => hi j (hH.inj _ _ L' L (p4 j L' hL') hL e)
  let φ' : Nat → Option Loc := fun i => (by classical exact if hi : ∃ j, frρ l H.length j = i then φ1 (Classical.choose hi) else φ i)
  have hφin : ∀ j, φ' (frρ l H.length j) = φ1 j := fun j => by
    have hi : ∃ j', frρ l H.length j' = frρ l H.length j := ⟨j, rfl⟩
    simp only [φ', dif_pos hi]
    rw [ρinj _ _ (Classical.choose_spec hi)]
  have hφout : ∀ i, (∀ j, frρ l H.length j ≠ i) → φ' i = φ i := fun i hi => by
    simp only [φ']
    rw [dif_neg (fun ⟨j, e⟩ => hi j e)]
  have hks : KeepS S1 w' S1 w' := .refl _ _
  have hbs : ∀ i, hget H1 i ≠ .unborn → hget (frameH H l H1) (frρ l H.length i) = (hget H1 i).ren (frρ l H.length) ∧ φ' (frρ l H.length i) = φ1 i := fun i _ => ⟨g1 i, hφin i⟩
  have hst : Step φ S0 H w φ' S1 (frameH H l H1) w' := by
    refine ⟨fun B hB hlt' => hs1.keepS B hB hlt', fun i hi => ?_⟩
    by_cases hin : ∃ j, frρ l H.length j = i
    · obtain ⟨j, rfl⟩ := hin
      have hj : j < H0.length := Classical.byContradiction fun hn => hi (hun j (hget_length H0 j (by omega)))
      obtain ⟨hb1, hb2⟩ := hB j hj
      rw [g1, hφin, hb2]
      rcases hs1.keepH j hb1 with hd | ⟨hsh, hφ⟩
      · left; rw [hd]; rfl
      · by_cases hd : hget H0 j = .dead
        · rw [hd] at hsh; simp [SameShape] at hsh
        · right
          refine ⟨?_, by rw [hφ, p3 j hj hd]⟩
          revert hsh
          cases hget H0 j <;> cases hget H1 j <;> simp [SameShape, Blk.ren, renL_map]
    · have hi' : ∀ j, frρ l H.length j ≠ i := fun j e => hin ⟨j, e⟩
      rw [g2 i hi', hφout i hi']
      exact (Step.refl (φ := φ) (S := S0) (H := H) (w := w)).keepH i hi
  refine ⟨c, φ', S1, rfl, RV.shift (ρ := frρ l H.length) hks hbs hr, ⟨Nat.le_trans hH.n0 hk.size, ?_, ?_, ?_, ?_, hH1.low⟩, hst, ⟨hk.os, hk.tape, hk.output, hk.size, fun B hB ho => hsame B (Nat.lt_of_lt_of_le hB hH.n0) (fun i L hL e => ?_)⟩⟩
  · intro i L hL
    by_cases hin : ∃ j, frρ l H.length j = i
    · obtain ⟨j, rfl⟩ := hin
      rw [hφin] at hL
      rcases hown1 j L hL with ⟨j', L', h1, h2⟩ | h1
      · rw [← h2]; exact hH.own _ L' (p4 j' L' h1)
      · exact .inr (Nat.le_trans hH.n0 h1)
    · rw [hφout i (fun j e => hin ⟨j, e⟩)] at hL; exact hH.own i L hL
  · intro B hB
    rcases hS1 B hB with h | ⟨j, L, h1, rfl⟩ | h
    · exact hH.vis B h
    · rcases hH.own _ L (p4 j L h1) with h | h
      · exact .inr (.inl h)
      · exact .inr (.inr h)
    · exact .inr (.inr (Nat.le_trans hH.n0 h))
  · intro i j L L' hL hL' he
    by_cases hi : ∃ a, frρ l H.length a = i
    · obtain ⟨a, rfl⟩ := hi
      rw [hφin] at hL
      by_cases hj : ∃ b, frρ l H.length b = j
      · obtain ⟨b, rfl⟩ := hj
        rw [hφin] at hL'
        rw [hH1.inj a b L L' hL hL' he]
      · have hj' : ∀ b, frρ l H.length b ≠ j := fun b e => hj ⟨b, e⟩
        rw [hφout j hj'] at hL'
        rcases hown1 a L hL with ⟨a', L2, h1, h2⟩ | h1
        · exact absurd (h2.trans he) (hfar j L' hL' hj' a' L2 h1)
        · have := hH.lt hL'; omega
    · have hi' : ∀ b, frρ l H.length b ≠ i := fun b e => hi ⟨b, e⟩
      rw [hφout i hi'] at hL
      by_cases hj : ∃ b, frρ l H.length b = j
      · obtain ⟨b, rfl⟩ := hj
        rw [hφin] at hL'
        rcases hown1 b L' hL' with ⟨a', L2, h1, h2⟩ | h1
        · exact absurd (h2.trans he.symm) (hfar i L hL hi' a' L2 h1)
        · have := hH.lt hL; omega
      · have hj' : ∀ b, frρ l H.length b ≠ j := fun b e => hj ⟨b, e⟩
        rw [hφout j hj'] at hL'
        exact hH.inj i j L L' hL hL' he
  · intro i
    by_cases hin : ∃ j, frρ l H.length j = i
    · obtain ⟨j, rfl⟩ := hin
      rw [g1]
      exact BR.shift (ρ := frρ l H.length) hks hbs (hφin j) (fun L hL => Iff.rfl) (hH1.blk j)
    · have hi' : ∀ j, frρ l H.length j ≠ i := fun j e => hin ⟨j, e⟩
      rw [g2 i hi']
      refine (hH.blk i).keep hst (hφout i hi') (fun L hL => ⟨hsame _ (hH.lt hL) (hfar i L hL hi'), ⟨fun hh => ?_, hS01 _⟩⟩)
      rcases hS1 _ hh with h | ⟨j, L', h1, h2⟩ | h
      · exact h
      · exact absurd h2 (hfar i L hL hi' j L' h1)
      · have := hH.lt hL; omega
  · rcases hH.own _ L (p4 i L hL) with h | h
    · rw [e] at h; exact ho h
    · rw [e] at h; omega

end
end Go.Proofs.Ythpapgbpmkgfeaa.AM
