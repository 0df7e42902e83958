/- The machine's operations where more is known. -/
import Derived.Test.YthpapgbpmkgfeaaAm13
set_option linter.all false
namespace Go.Proofs.Ythpapgbpmkgfeaa.AM
open Go Go.RowKit

/-- More slots, more blocks. -/
structure More (T : Tmps) (H : Heap) (T' : Tmps) (H' : Heap) : Prop where
  slot : ∀ t, tget T t = .d .undef ∨ tget T' t = tget T t
  blk : ∀ id, hget H id = .unborn ∨ hget H' id = hget H id

section
variable {E : Env} {T T' : Tmps} {H H' : Heap}

theorem isUndef_iff {v : V} : v.isUndef = true ↔ v = .d .undef := by
  cases v with
  | d x => cases x <;> simp [V.isUndef]
  | _ => simp [V.isUndef]

theorem More.ev (h : More T H T' H') {x : Operand} (hx : (AM.ev T x).isUndef = false) : AM.ev T' x = AM.ev T x := by
  cases x with
  | tmp t =>
    rcases h.slot t with h1 | h1
    · simp [AM.ev, h1, V.isUndef] at hx
    · exact h1
  | _ => rfl

theorem More.ev' (h : More T H T' H') {x : Operand} {v : V} (hx : AM.ev T x = v) (hv : v.isUndef = false) : AM.ev T' x = v := by
  rw [h.ev (by rw [hx]; exact hv), hx]

theorem More.get (h : More T H T' H') {id : Nat} {b : Blk} (hb : hget H id = b) (hn : b ≠ .unborn) : hget H' id = b := by
  rcases h.blk id with h1 | h1
  · rw [h1] at hb; exact absurd hb.symm hn
  · rw [h1, hb]

theorem More.width (h : More T H T' H') {id : Nat} (hw : (hget H id).width.isSome = true) : (hget H' id).width.isSome = true := by
  rcases h.blk id with h1 | h1
  · rw [h1] at hw; simp [Blk.width] at hw
  · rw [h1]; exact hw

theorem More.lenOf (h : More T H T' H') {v : V} {n : Int} (hl : AM.lenOf H v = some n) : AM.lenOf H' v = some n := by
  cases v with
  | own id off len =>
    simp only [AM.lenOf] at hl ⊢
    split at hl
    · rename_i hg; rw [h.get hg (by simp)]; exact hl
    · cases hl
  | d x => cases x <;> exact hl
  | _ => exact hl

theorem More.elems (h : More T H T' H') {v : V} {ys : List D} (hl : AM.elems H v = some ys) : AM.elems H' v = some ys := by
  cases v with
  | own id off len =>
    simp only [AM.elems] at hl ⊢
    split at hl
    · rename_i hg; rw [h.get hg (by simp)]; exact hl
    · cases hl
  | d x => cases x <;> exact hl
  | _ => exact hl

theorem More.isPtr (h : More T H T' H') {v : V} (hp : AM.isPtr H v = true) : AM.isPtr H' v = true := by
  cases v with
  | ptr id i j => exact h.width hp
  | d x => cases x <;> exact hp
  | _ => exact hp

theorem More.bound (h : More T H T' H') {d l : Int} {x : Option Operand} (hb : AM.bound T d x = some l) : AM.bound T' d x = some l := by
  cases x with
  | none => exact hb
  | some x =>
    simp only [AM.bound] at hb ⊢
    split at hb
    · rename_i hx; rw [h.ev' hx rfl]; exact hb
    · cases hb

theorem More.partsD (h : More T H T' H') {sz : Nat} : ∀ (parts : List (Nat × Operand)) (i : Nat) (els : List D), AM.partsD T sz i parts = some els → AM.partsD T' sz i parts = some els
  | [], _, _, hp => hp
  | (j, x) :: r, i, els, hp => by
    simp only [AM.partsD] at hp ⊢
    split at hp
    · rename_i e es he hes
      split at hp
      · rename_i hc
        have hc' := hc
        simp only [Bool.and_eq_true] at hc
        rw [h.ev (all_one_not_undef hc.2), he, More.partsD h r (i + 1) es hes]
        simp only [hc', if_true]; exact hp
      · cases hp
    · cases hp

theorem More.partsV (h : More T H T' H') {place : Nat → Option (Nat × Nat)} : ∀ (parts : List (Nat × Operand)) (cells out : List V), AM.partsV T place parts cells = some out → AM.partsV T' place parts cells = some out
  | [], _, _, hp => hp
  | (i, x) :: r, cells, out, hp => by
    simp only [AM.partsV] at hp ⊢
    split at hp
    · rename_i off size hpl
      split at hp
      · rename_i hc
        have hc' := hc
        simp only [Bool.and_eq_true, Bool.not_eq_true'] at hc
        rw [h.ev hc.2]
        simp only [hc', if_true]; exact More.partsV h r _ out hp
      · cases hp
    · cases hp

set_option maxHeartbeats 1000000 in
theorem evop_more (hm : More T H T' H') {op : Op} {nid : Nat} {p : Prop} {v : V} {ch : Ch} (h : evop E T H nid op = some (p, v, ch)) : evop E T' H' nid op = some (p, v, ch) := by
  have horig := h
  unfold evop at h
  split at h
  · split at h
    · cases h
    · rename_i x hx; unfold evop; simp only [hm.ev (by simpa using hx)]; rw [if_neg hx]; exact h
  · split at h
    · cases h
    · rename_i x hx; unfold evop; simp only [hm.ev (by simpa using hx)]; rw [if_neg hx]; exact h
  · split at h
    · rename_i hc
      split at h
      · cases h
      · rename_i hx; unfold evop; simp only [hm.ev' hc rfl, hm.ev (by simpa using hx)]; rw [if_neg hx]; exact h
    · rename_i hc
      split at h
      · cases h
      · rename_i hx; unfold evop; simp only [hm.ev' hc rfl, hm.ev (by simpa using hx)]; rw [if_neg hx]; exact h
    · cases h
  · split at h
    · rename_i hx; unfold evop; simp only [hm.ev' hx rfl]; exact h
    · cases h
  · -- binOp
    split at h
    · rename_i hx hy; unfold evop; simp only [hm.ev' hx rfl, hm.ev' hy rfl]; exact h
    · rename_i hx hy; unfold evop; simp only [hm.ev' hx rfl, hm.ev' hy rfl]; exact h
    · rename_i x y ty u v hn1 hn2
      split at h
      · rename_i ti xs ys hti hxs hys
        split at h
        · rename_i hc
          have hc' := hc
          simp only [Bool.and_eq_true, Bool.not_eq_true'] at hc
          have agg_ne : ∀ {v : V}, v.isAgg = true → v.isUndef = false := fun {v} hv => by
            cases v with
            | d x => cases x <;> simp_all [V.isAgg, V.isUndef]
            | _ => rfl
          rw [← horig]
          unfold evop
          simp only [hm.ev (agg_ne hc.1.2), hm.ev (agg_ne hc.2)]
        · cases h
      · cases h
  · split at h
    · rename_i hx; unfold evop; simp only [hm.ev' hx rfl]; exact h
    · rename_i hx; unfold evop; simp only [hm.ev' hx rfl]; exact h
    · cases h
  · exact h
  · -- box
    split at h
    · rename_i hti
      split at h
      · cases h
      · rename_i hx; unfold evop; simp only [hti, hm.ev (by simpa using hx)]; rw [if_neg hx]; exact h
    · cases h
  · -- load
    split at h
    · rename_i hti hx; unfold evop; simp only [hti, hm.ev' hx rfl]; exact h
    · rename_i hti hx
      split at h
      · rename_i hg; unfold evop; simp only [hti, hm.ev' hx rfl, hm.get hg (by simp)]; exact h
      · rename_i hg; unfold evop; simp only [hti, hm.ev' hx rfl, hm.get hg (by simp)]; exact h
      · cases h
    · cases h
  · -- store
    split at h
    · rename_i hti hx
      split at h
      · rename_i hc
        have hc' := hc
        simp only [Bool.and_eq_true] at hc
        split at h
        · rename_i hg; unfold evop; simp only [hti, hm.ev' hx rfl, hm.ev (all_one_not_undef hc.2), hc', if_true, hm.get hg (by simp)]; exact h
        · rename_i hg; unfold evop; simp only [hti, hm.ev' hx rfl, hm.ev (all_one_not_undef hc.2), hc', if_true, hm.get hg (by simp)]; exact h
        · cases h
      · cases h
    · cases h
  · -- fieldAddr
    split at h
    · rename_i hti hx; unfold evop; simp only [hti, hm.ev' hx rfl]; exact h
    · rename_i hti hx
      split at h
      · rename_i hs
        split at h
        · cases h
        · rename_i h0
          split at h
          · rename_i hw; unfold evop; simp only [hti, hm.ev' hx rfl, hs, hm.width hw, if_true]; rw [if_neg h0]; exact h
          · cases h
      · cases h
    · cases h
  · -- indexAddr
    split at h
    · rename_i hti hx hi; unfold evop; simp only [hti, hm.ev' hx rfl, hm.ev' hi rfl]; exact h
    · rename_i hti hx hi
      split at h
      · rename_i hsh hg; unfold evop; simp only [hti, hm.ev' hx rfl, hm.ev' hi rfl, hsh, hm.get hg (by simp)]; exact h
      · cases h
    · rename_i hti hx hi
      split at h
      · rename_i hsh
        split at h
        · rename_i het
          split at h
          · rename_i hw; unfold evop; simp only [hti, hm.ev' hx rfl, hm.ev' hi rfl, hsh, het, hm.width hw, if_true]; exact h
          · cases h
        · cases h
      · cases h
    · rename_i hti hx hi; unfold evop; simp only [hti, hm.ev' hx rfl, hm.ev' hi rfl]; exact h
    · cases h
  · -- slice
    split at h
    · rename_i eti n hs hl
      have hne : (ev T ‹Operand›).isUndef = false := by
        revert hl
        generalize ev T _ = v
        intro hl
        cases v with
        | d x => cases x <;> simp_all [AM.lenOf, V.isUndef]
        | _ => rfl
      split at h
      · rename_i hlo hhi
        split at h
        · rename_i hx; unfold evop; simp only [hs, hm.ev' hx rfl]; rw [hx] at hl; simp only [hm.lenOf hl, hm.bound hlo, hm.bound hhi]; exact h
        · rename_i hx; unfold evop; simp only [hs, hm.ev' hx rfl]; rw [hx] at hl; simp only [hm.lenOf hl, hm.bound hlo, hm.bound hhi]; exact h
        · rename_i hx
          split at h
          · rename_i hg; unfold evop; simp only [hs, hm.ev' hx rfl]; rw [hx] at hl; simp only [hm.lenOf hl, hm.bound hlo, hm.bound hhi, hm.get hg (by simp)]; exact h
          · cases h
        · cases h
      · cases h
    · cases h
  · -- buildSlice
    split at h
    · rename_i hs
      split at h
      · rename_i hels; unfold evop; simp only [hs, hm.partsD _ _ _ hels]; exact h
      · cases h
    · cases h
  · -- build
    split at h
    · rename_i hti
      split at h
      · rename_i hsh
        split at h
        · rename_i hc; unfold evop; simp only [hti, hsh, hm.partsV _ _ _ hc]; exact h
        · cases h
      · rename_i hsh
        split at h
        · rename_i het
          split at h
          · rename_i hc; unfold evop; simp only [hti, hsh, het, hm.partsV _ _ _ hc]; exact h
          · cases h
        · cases h
      · cases h
    · cases h
  · -- makeFunc
    split at h
    · rename_i h0
      have hmap : ∀ (xs : List Operand), (xs.all fun x => !(ev T x).isUndef) = true → xs.map (ev T') = xs.map (ev T) ∧ (xs.all fun x => !(ev T' x).isUndef) = true := by
        intro xs
        induction xs with
        | nil => intro _; exact ⟨rfl, rfl⟩
        | cons x r ih =>
          intro hx
          simp only [List.all_cons, Bool.and_eq_true, Bool.not_eq_true'] at hx
          obtain ⟨i1, i2⟩ := ih hx.2
          have e := hm.ev hx.1
          simp [e, i1, hx.1]
          simpa using i2
      obtain ⟨e1, e2⟩ := hmap _ h0
      unfold evop
      simp only [e1, e2, if_true]; exact h
    · cases h
  · -- nilCheck
    split at h
    · rename_i hx
      have hne : (ev T ‹Operand›).isUndef = false := by
        revert hx
        generalize ev T _ = v
        intro hx
        cases v with
        | d x => cases x <;> simp_all [AM.isPtr, V.isUndef]
        | _ => rfl
      unfold evop; simp only [hm.ev hne, hm.isPtr hx, if_true]; exact h
    · cases h
  · -- convert
    split at h
    · rename_i hsi hti hx; unfold evop; simp only [hsi, hti, hm.ev' hx rfl]; exact h
    · cases h
  · -- len
    split at h
    · rename_i x t hargs htys
      split at h
      · rename_i hs hl
        have hne : (ev T x).isUndef = false := by
          revert hl
          generalize ev T _ = v
          intro hl
          cases v with
          | d x => cases x <;> simp_all [AM.lenOf, V.isUndef]
          | _ => rfl
        unfold evop; simp only [hargs, htys, hs, hm.ev hne, hm.lenOf hl]; exact h
      · cases h
    · cases h
  · -- append
    split at h
    · rename_i x y t u hargs htys
      split at h
      · rename_i hs hs' hy
        have hne : (ev T y).isUndef = false := by
          revert hy
          generalize ev T _ = v
          intro hl
          cases v with
          | d x => cases x <;> simp_all [AM.elems, V.isUndef]
          | _ => rfl
        split at h
        · rename_i hc
          split at h
          · rename_i hx; unfold evop; simp only [hargs, htys, hs, hs', hm.ev hne, hm.elems hy, hc, if_true, hm.ev' hx rfl]; exact h
          · rename_i hx
            split at h
            · rename_i hg; unfold evop; simp only [hargs, htys, hs, hs', hm.ev hne, hm.elems hy, hc, if_true, hm.ev' hx rfl, hm.get hg (by simp)]; exact h
            · cases h
          · cases h
        · cases h
      · cases h
    · cases h
  · -- min
    split at h
    · rename_i x y hargs
      split at h
      · rename_i hx hy
        unfold evop; simp only [hargs, hm.ev' hx rfl, hm.ev' hy rfl]; exact h
      · cases h
    · cases h
  · -- max
    split at h
    · rename_i x y hargs
      split at h
      · rename_i hx hy
        unfold evop; simp only [hargs, hm.ev' hx rfl, hm.ev' hy rfl]; exact h
      · cases h
    · cases h
  · -- clear
    split at h
    · rename_i x t hargs htys
      split at h
      · rename_i hs hx
        split at h
        · rename_i hg hz
          unfold evop; simp only [hargs, htys, hs, hm.ev' hx rfl, hm.get hg (by simp), hz]; exact h
        · cases h
      · cases h
    · cases h
  · cases h

end
end Go.Proofs.Ythpapgbpmkgfeaa.AM
