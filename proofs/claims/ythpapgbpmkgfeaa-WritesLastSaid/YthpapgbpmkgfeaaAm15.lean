/- Less known: slots forgotten, blocks numbered anew. -/
import Derived.Test.YthpapgbpmkgfeaaAm14
set_option linter.all false
namespace Go.Proofs.Ythpapgbpmkgfeaa.AM
open Go Go.RowKit

mutual
def V.ren (ρ : Nat → Nat) : V → V
  | .d x => .d x
  | .nils => .nils
  | .ptr id i j => .ptr (ρ id) i j
  | .own id off len => .own (ρ id) off len
  | .agg vs => .agg (renL ρ vs)
  | .tuple vs => .tuple (renL ρ vs)
  | .func f vs => .func f (renL ρ vs)
def renL (ρ : Nat → Nat) : List V → List V
  | [] => []
  | v :: r => V.ren ρ v :: renL ρ r
end

/-- It is what it was, by other numbers; or an empty slice that was nil. -/
inductive Ren (ρ : Nat → Nat) (H' : Heap) : V → V → Prop
  | same (v : V) : Ren ρ H' v (v.ren ρ)
  | undef (v : V) : Ren ρ H' (.d .undef) v
  | nils (id sz : Nat) : hget H' id = .dat false sz [] → Ren ρ H' (.own id 0 0) .nils

inductive RenL (ρ : Nat → Nat) (H' : Heap) : List V → List V → Prop
  | nil : RenL ρ H' [] []
  | cons {v' v : V} {r' r : List V} : Ren ρ H' v' v → RenL ρ H' r' r → RenL ρ H' (v' :: r') (v :: r)

/-- The same of a block: it is number i among the new ones. -/
inductive RenB (ρ : Nat → Nat) (H H' : Heap) (i : Nat) : Prop
  | box (fz : Bool) (cells cells' : List V) : hget H' i = .box fz cells' → hget H (ρ i) = .box fz cells → RenL ρ H' cells' cells → RenB ρ H H' i
  | dat (fz : Bool) (sz : Nat) (els : List D) : hget H' i = .dat fz sz els → hget H (ρ i) = .dat fz sz els → RenB ρ H H' i
  | virt (sz : Nat) : hget H' i = .dat false sz [] → hget H (ρ i) = .unborn → RenB ρ H H' i
  | dead : hget H' i = .dead → RenB ρ H H' i

section
variable {C : Ctx} {φ : Nat → Option Loc} {S : Nat → Prop} {H H' : Heap} {w : World} {T T' : Tmps} {a : Act} {ρ : Nat → Nat}

/-- The places by the new numbers. -/
def φren (φ : Nat → Option Loc) (ρ : Nat → Nat) (H' : Heap) : Nat → Option Loc := fun i =>
  match hget H' i with
  | .unborn | .dead => none
  | _ => φ (ρ i)

theorem RenL.length {vs' vs : List V} (h : RenL ρ H' vs' vs) : vs'.length = vs.length := by
  induction h with
  | nil => rfl
  | cons _ _ ih => simp [ih]

theorem RenL.get {vs' vs : List V} (h : RenL ρ H' vs' vs) : ∀ (i : Nat) (v' v : V), vs'[i]? = some v' → vs[i]? = some v → Ren ρ H' v' v := by
  induction h with
  | nil => intro i v' v h; simp at h
  | cons h1 _ ih =>
    intro i v' v hv' hv
    cases i with
    | zero => simp at hv' hv; subst hv'; subst hv; exact h1
    | succ i => exact ih i v' v (by simpa using hv') (by simpa using hv)

mutual
theorem RV.ren (hB : ∀ i, hget H' i ≠ .unborn → RenB ρ H H' i) (hU : ∀ i, hget H' i = .unborn → hget H (ρ i) = .unborn) : ∀ (v : V) (c : Value), RV φ S H w (v.ren ρ) c → RV (φren φ ρ H') S H' w v c
  | .d x, c, h => by cases h with | d _ _ h => exact .d x c h
  | .nils, c, h => by cases h; exact .nils
  | .ptr id i j, c, h => by
    simp only [V.ren] at h
    cases h with | ptr _ _ _ A hu hh =>
      have hne : hget H' id ≠ .unborn := fun e => hu (hU id e)
      refine .ptr id i j A hne (fun sz hw => ?_)
      rcases hB id hne with ⟨fz, cells, cells', h1, h2, h3⟩ | ⟨fz, s, els, h1, h2⟩ | ⟨s, h1, h2⟩ | h1
      · have : (hget H (ρ id)).width = some sz := by rw [h2]; rw [h1] at hw; simp [Blk.width] at hw ⊢; rw [← h3.length]; exact hw
        simpa [φren, h1] using hh sz this
      · have : (hget H (ρ id)).width = some sz := by rw [h2]; rw [h1] at hw; exact hw
        simpa [φren, h1] using hh sz this
      · exact absurd h2 hu
      · rw [h1] at hw; simp [Blk.width] at hw
  | .own id off len, c, h => by
    simp only [V.ren] at h
    cases h with | own _ _ _ l cap A hu hh =>
      have hne : hget H' id ≠ .unborn := fun e => hu (hU id e)
      refine .own id off len l cap A hne (fun fz sz els hg => ?_)
      rcases hB id hne with ⟨fz', cells, cells', h1, h2, h3⟩ | ⟨fz', s, els', h1, h2⟩ | ⟨s, h1, h2⟩ | h1
      · rw [h1] at hg; cases hg
      · rw [h1] at hg; cases hg
        simpa [φren, h1] using hh _ _ _ h2
      · exact absurd h2 hu
      · rw [h1] at hg; cases hg
  | .agg vs, c, h => by
    simp only [V.ren] at h
    cases h with | agg _ cs hl hh =>
      obtain ⟨q1, q2⟩ := RVs.ren hB hU vs cs ⟨hl, hh⟩
      exact .agg vs cs q1 q2
  | .tuple vs, c, h => by
    simp only [V.ren] at h
    cases h with | tuple _ cs hl hh =>
      obtain ⟨q1, q2⟩ := RVs.ren hB hU vs cs ⟨hl, hh⟩
      exact .tuple vs cs q1 q2
  | .func f vs, c, h => by
    simp only [V.ren] at h
    cases h with | func _ _ cs hl hh =>
      obtain ⟨q1, q2⟩ := RVs.ren hB hU vs cs ⟨hl, hh⟩
      exact .func f vs cs q1 q2
theorem RVs.ren (hB : ∀ i, hget H' i ≠ .unborn → RenB ρ H H' i) (hU : ∀ i, hget H' i = .unborn → hget H (ρ i) = .unborn) : ∀ (vs : List V) (cs : List Value), RVs φ S H w (renL ρ vs) cs → RVs (φren φ ρ H') S H' w vs cs
  | [], cs, h => by
    have : cs = [] := List.eq_nil_of_length_eq_zero (by have := h.len; simpa [renL] using this.symm)
    subst this; exact .nil
  | v :: r, cs, h => by
    cases cs with
    | nil => have := h.len; simp [renL] at this
    | cons c cs =>
      have h0 := h.at_ 0 (v.ren ρ) c (by simp [renL]) rfl
      exact .cons (RV.ren hB hU v c h0) (RVs.ren hB hU r cs ⟨by have := h.len; simpa [renL] using this, fun i x y hx hy => h.at_ (i + 1) x y (by simpa [renL] using hx) (by simpa using hy)⟩)
end

theorem RV.renR (hB : ∀ i, hget H' i ≠ .unborn → RenB ρ H H' i) (hU : ∀ i, hget H' i = .unborn → hget H (ρ i) = .unborn) {v' v : V} {c : Value} (hr : Ren ρ H' v' v) (h : RV φ S H w v c) : RV (φren φ ρ H') S H' w v' c := by
  cases hr with
  | same => exact RV.ren hB hU v' c h
  | undef => exact .d _ _ (.undef _)
  | nils id sz hg =>
    cases h
    refine .own id 0 0 0 0 none (by rw [hg]; simp) (fun fz s els hg' => ?_)
    rw [hg] at hg'; cases hg'
    exact ⟨by simp, rfl, Nat.le_refl _, .inl rfl⟩

/-- LESS IS KNOWN: by other numbers. -/
theorem Weak.ren_heap (hH : HRel C φ S H w) (hB : ∀ i, hget H' i ≠ .unborn → RenB ρ H H' i) (hU : ∀ i, hget H' i = .unborn → hget H (ρ i) = .unborn)
    (hinj : ∀ i j, hget H' i ≠ .unborn → hget H' j ≠ .unborn → ρ i = ρ j → hget H (ρ i) ≠ .unborn → i = j) : HRel C (φren φ ρ H') S H' w := by
  refine ⟨hH.n0, ?_, hH.vis, ?_, ?_, hH.low⟩
  · intro i L h
    simp only [φren] at h
    split at h
    · cases h
    · cases h
    · exact hH.own _ L h
  · intro i j L L' h h' e
    have hi : hget H' i ≠ .unborn := fun e => by simp [φren, e] at h
    have hj : hget H' j ≠ .unborn := fun e => by simp [φren, e] at h'
    have key : ∀ {k : Nat} {M : Loc}, φren φ ρ H' k = some M → φ (ρ k) = some M := fun {k M} hk => by
      simp only [φren] at hk
      split at hk
      · cases hk
      · cases hk
      · exact hk
    have he := hH.inj _ _ L L' (key h) (key h') e
    refine hinj i j hi hj he (fun hu => ?_)
    have := hH.blk (ρ i); rw [hu] at this; simp only [BR] at this; have h2 := key h; rw [this] at h2; cases h2
  · intro i
    by_cases hu : hget H' i = .unborn
    · rw [hu]; simp [BR, φren, hu]
    rcases hB i hu with ⟨fz, cells, cells', h1, h2, h3⟩ | ⟨fz, sz, els, h1, h2⟩ | ⟨sz, h1, h2⟩ | h1
    · rw [h1]
      have hb := hH.blk (ρ i)
      rw [h2] at hb
      obtain ⟨L, cs, t, g1, g2, g3, g4, g5, g6⟩ := hb
      refine ⟨L, cs, t, by simp [φren, h1, g1], g2, g3, by rw [h3.length]; exact g4, fun k v' c hk hc => ?_, g6⟩
      have hk' : k < cells.length := by rw [← h3.length]; exact (List.getElem?_eq_some_iff.1 hk).1
      exact RV.renR hB hU (h3.get k v' _ hk (List.getElem?_eq_getElem hk')) (g5 k _ c (List.getElem?_eq_getElem hk') hc)
    · rw [h1]
      have hb := hH.blk (ρ i)
      rw [h2] at hb
      rcases hb with ⟨g1, g2⟩ | ⟨L, cs, t, g1, g2⟩
      · exact .inl ⟨g1, by simp [φren, h1, g2]⟩
      · exact .inr ⟨L, cs, t, by simp [φren, h1, g1], g2⟩
    · rw [h1]
      have hb := hH.blk (ρ i)
      rw [h2] at hb
      exact .inl ⟨rfl, by simp only [φren, h1]; exact hb⟩
    · rw [h1]; simp [BR, φren, h1]

theorem Weak.ren (ρ : Nat → Nat) (hT : ∀ t, Ren ρ H' (tget T' t) (tget T t)) (hB : ∀ i, hget H' i ≠ .unborn → RenB ρ H H' i) (hU : ∀ i, hget H' i = .unborn → hget H (ρ i) = .unborn)
    (hinj : ∀ i j, hget H' i ≠ .unborn → hget H' j ≠ .unborn → ρ i = ρ j → hget H (ρ i) ≠ .unborn → i = j) : Weak 0 T H T' H' := by
  intro C φ S w a hH hT0
  exact ⟨φren φ ρ H', S, Weak.ren_heap hH hB hU hinj, fun t => RV.renR hB hU (hT t) (hT0 t), ⟨.refl _ _, Nat.le_refl _, fun id h => by omega⟩⟩

end
end Go.Proofs.Ythpapgbpmkgfeaa.AM
