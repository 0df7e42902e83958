/- The texts Am16, Am17, Am18, Am19, Am14, Am26, Am15, Am20, Am21, Am22, Am23, Am24, Am25, Am30, joined. -/
import Derived.ProofKit
import Derived.OpenShut
import Derived.Test.YtaejlmengfahnaaJWA1

set_option linter.all false
set_option linter.all false
namespace Go.Proofs.Ytaejlmengfahnaa.AM
open Go Go.RowKit

structure More (T : Tmps) (H : Heap) (T' : Tmps) (H' : Heap) : Prop where
  slot : ∀ t, tget T t = .d .undef ∨ tget T' t = tget T t
  blk : ∀ id, hget H id = .unborn ∨ hget H' id = hget H id

section
variable {E : Env} {T T' : Tmps} {H H' : Heap}

theorem isAgg_ne {v : V} (hv : v.isAgg = true) : v.isUndef = false := by
  cases v with
  | d x => cases x <;> simp_all [V.isAgg, V.isUndef]
  | _ => rfl

theorem More.ev (h : More T H T' H') {x : Operand} (hx : (AM.ev T x).isUndef = false) : AM.ev T' x = AM.ev T x := by
  cases x with
  | tmp t =>
    rcases h.slot t with h1 | h1
    · simp [AM.ev, h1, V.isUndef] at hx
    · exact h1
  | _ => rfl

theorem More.ev' (h : More T H T' H') {x : Operand} {v : V} (hx : AM.ev T x = v) (hv : v.isUndef = false) : AM.ev T' x = v := by
  rw [h.ev (by rw [hx]; exact hv), hx]

theorem More.get (h : More T H T' H') {id : Nat} {b : Blk} (hb : hget H id = b) (hn : b ≠ .unborn) : hget H' id = b := by
  rcases h.blk id with h1 | h1
  · rw [h1] at hb; exact absurd hb.symm hn
  · rw [h1, hb]

theorem More.width (h : More T H T' H') {id : Nat} (hw : (hget H id).width.isSome = true) : (hget H' id).width.isSome = true := by
  rcases h.blk id with h1 | h1
  · rw [h1] at hw; simp [Blk.width] at hw
  · rw [h1]; exact hw

theorem More.lenOf (h : More T H T' H') {v : V} {n : Int} (hl : AM.lenOf H v = some n) : AM.lenOf H' v = some n := by
  cases v with
  | own id off len =>
    simp only [AM.lenOf] at hl ⊢
    split at hl
    · rename_i hg; rw [h.get hg (by simp)]; exact hl
    · cases hl
  | full id off len c =>
    simp only [AM.lenOf] at hl ⊢
    split at hl
    · rename_i hg; rw [h.get hg (by simp)]; exact hl
    · cases hl
  | d x => cases x <;> exact hl
  | _ => exact hl

theorem More.elems (h : More T H T' H') {v : V} {ys : List D} (hl : AM.elems H v = some ys) : AM.elems H' v = some ys := by
  cases v with
  | own id off len =>
    simp only [AM.elems] at hl ⊢
    split at hl
    · rename_i hg; rw [h.get hg (by simp)]; exact hl
    · cases hl
  | full id off len c =>
    simp only [AM.elems] at hl ⊢
    split at hl
    · rename_i hg; rw [h.get hg (by simp)]; exact hl
    · cases hl
  | d x => cases x <;> exact hl
  | _ => exact hl

theorem More.isPtr (h : More T H T' H') {v : V} (hp : AM.isPtr H v = true) : AM.isPtr H' v = true := by
  cases v with
  | ptr id i j => exact h.width hp
  | d x => cases x <;> exact hp
  | _ => exact hp

theorem More.bound (h : More T H T' H') {d l : Int} {x : Option Operand} (hb : AM.bound T d x = some l) : AM.bound T' d x = some l := by
  cases x with
  | none => exact hb
  | some x =>
    simp only [AM.bound] at hb ⊢
    split at hb
    · rename_i hx; rw [h.ev' hx rfl]; exact hb
    · cases hb

theorem More.partsD (h : More T H T' H') {sz : Nat} : ∀ (parts : List (Nat × Operand)) (i : Nat) (els : List D), AM.partsD T sz i parts = some els → AM.partsD T' sz i parts = some els
  | [], _, _, hp => hp
  | (j, x) :: r, i, els, hp => by
    simp only [AM.partsD] at hp ⊢
    split at hp
    · rename_i e es he hes
      split at hp
      · rename_i hc
        have hc' := hc
        simp only [Bool.and_eq_true] at hc
        rw [h.ev (all_one_not_undef hc.2), he, More.partsD h r (i + 1) es hes]
        simp only [hc', if_true]; exact hp
      · cases hp
    · cases hp

theorem More.partsV (h : More T H T' H') {place : Nat → Option (Nat × Nat)} : ∀ (parts : List (Nat × Operand)) (cells out : List V), AM.partsV T place parts cells = some out → AM.partsV T' place parts cells = some out
  | [], _, _, hp => hp
  | (i, x) :: r, cells, out, hp => by
    simp only [AM.partsV] at hp ⊢
    split at hp
    · rename_i off size hpl
      split at hp
      · rename_i hc
        have hc' := hc
        simp only [Bool.and_eq_true, Bool.not_eq_true'] at hc
        rw [h.ev hc.2]
        simp only [hc', if_true]; exact More.partsV h r _ out hp
      · cases hp
    · cases hp

set_option maxHeartbeats 1000000 in
theorem evop_more (hm : More T H T' H') {op : Op} {nid : Nat} {p : Prop} {v : V} {ch : Ch} (h : evop E T H nid op = some (p, v, ch)) : evop E T' H' nid op = some (p, v, ch) := by
  have horig := h
  unfold evop at h
  split at h
  · split at h
    · cases h
    · rename_i x hx; unfold evop; simp only [hm.ev (by simpa using hx)]; rw [if_neg hx]; exact h
  · split at h
    · cases h
    · rename_i x hx; unfold evop; simp only [hm.ev (by simpa using hx)]; rw [if_neg hx]; exact h
  · split at h
    · rename_i hc
      split at h
      · cases h
      · rename_i hx; unfold evop; simp only [hm.ev' hc rfl, hm.ev (by simpa using hx)]; rw [if_neg hx]; exact h
    · rename_i hc
      split at h
      · cases h
      · rename_i hx; unfold evop; simp only [hm.ev' hc rfl, hm.ev (by simpa using hx)]; rw [if_neg hx]; exact h
    · cases h
  · split at h
    · rename_i hx; unfold evop; simp only [hm.ev' hx rfl]; exact h
    · cases h
  · -- binOp
    split at h
    · rename_i hx hy; unfold evop; simp only [hm.ev' hx rfl, hm.ev' hy rfl]; exact h
    · rename_i hx hy; unfold evop; simp only [hm.ev' hx rfl, hm.ev' hy rfl]; exact h
    · rename_i x y ty u v hn1 hn2
      split at h
      · rename_i ti xs ys hti hxs hys
        split at h
        · rename_i hc
          have hc' := hc
          simp only [Bool.and_eq_true, Bool.not_eq_true'] at hc
          have agg_ne : ∀ {v : V}, v.isAgg = true → v.isUndef = false := fun {v} hv => by
            cases v with
            | d x => cases x <;> simp_all [V.isAgg, V.isUndef]
            | _ => rfl
          rw [← horig]
          unfold evop
          simp only [hm.ev (agg_ne hc.1.2), hm.ev (agg_ne hc.2)]
        · cases h
      · cases h
  · split at h
    · rename_i hx; unfold evop; simp only [hm.ev' hx rfl]; exact h
    · rename_i hx; unfold evop; simp only [hm.ev' hx rfl]; exact h
    · cases h
  · exact h
  · -- box
    split at h
    · rename_i hti
      split at h
      · cases h
      · rename_i hx; unfold evop; simp only [hti, hm.ev (by simpa using hx)]; rw [if_neg hx]; exact h
    · cases h
  · -- load
    split at h
    · rename_i hti hx; unfold evop; simp only [hti, hm.ev' hx rfl]; exact h
    · rename_i hti hx
      split at h
      · rename_i hg; unfold evop; simp only [hti, hm.ev' hx rfl, hm.get hg (by simp)]; exact h
      · rename_i hg; unfold evop; simp only [hti, hm.ev' hx rfl, hm.get hg (by simp)]; exact h
      · cases h
    · cases h
  · -- store
    split at h
    · rename_i hti hx
      split at h
      · rename_i hc
        have hc' := hc
        simp only [Bool.and_eq_true] at hc
        split at h
        · rename_i hg; unfold evop; simp only [hti, hm.ev' hx rfl, hm.ev (all_one_not_undef hc.2), hc', if_true, hm.get hg (by simp)]; exact h
        · rename_i hg; unfold evop; simp only [hti, hm.ev' hx rfl, hm.ev (all_one_not_undef hc.2), hc', if_true, hm.get hg (by simp)]; exact h
        · cases h
      · cases h
    · cases h
  · -- fieldAddr
    split at h
    · rename_i hti hx; unfold evop; simp only [hti, hm.ev' hx rfl]; exact h
    · rename_i hti hx
      split at h
      · rename_i hs
        split at h
        · cases h
        · rename_i h0
          split at h
          · rename_i hw; unfold evop; simp only [hti, hm.ev' hx rfl, hs, hm.width hw, if_true]; rw [if_neg h0]; exact h
          · cases h
      · cases h
    · cases h
  · -- indexAddr
    split at h
    · rename_i hti hx hi; unfold evop; simp only [hti, hm.ev' hx rfl, hm.ev' hi rfl]; exact h
    · rename_i hti hx hi
      split at h
      · rename_i hsh hg; unfold evop; simp only [hti, hm.ev' hx rfl, hm.ev' hi rfl, hsh, hm.get hg (by simp)]; exact h
      · cases h
    · rename_i hti hx hi
      split at h
      · rename_i hsh
        split at h
        · rename_i het
          split at h
          · rename_i hw; unfold evop; simp only [hti, hm.ev' hx rfl, hm.ev' hi rfl, hsh, het, hm.width hw, if_true]; exact h
          · cases h
        · cases h
      · cases h
    · rename_i hti hx hi; unfold evop; simp only [hti, hm.ev' hx rfl, hm.ev' hi rfl]; exact h
    · cases h
  · -- slice
    split at h
    · rename_i eti n hs hl
      have hne : (ev T ‹Operand›).isUndef = false := by
        revert hl
        generalize ev T _ = v
        intro hl
        cases v with
        | d x => cases x <;> simp_all [AM.lenOf, V.isUndef]
        | _ => rfl
      split at h
      · rename_i hlo hhi
        split at h
        · rename_i hx; unfold evop; simp only [hs, hm.ev' hx rfl]; rw [hx] at hl; simp only [hm.lenOf hl, hm.bound hlo, hm.bound hhi]; exact h
        · rename_i hx; unfold evop; simp only [hs, hm.ev' hx rfl]; rw [hx] at hl; simp only [hm.lenOf hl, hm.bound hlo, hm.bound hhi]; exact h
        · rename_i hx
          split at h
          · rename_i hg; unfold evop; simp only [hs, hm.ev' hx rfl]; rw [hx] at hl; simp only [hm.lenOf hl, hm.bound hlo, hm.bound hhi, hm.get hg (by simp)]; exact h
          · cases h
        · rename_i hx
          split at h
          · rename_i hg; unfold evop; simp only [hs, hm.ev' hx rfl]; rw [hx] at hl; simp only [hm.lenOf hl, hm.bound hlo, hm.bound hhi, hm.get hg (by simp)]; exact h
          · cases h
        · cases h
      · cases h
    · cases h
  · -- buildSlice
    split at h
    · rename_i hs
      split at h
      · rename_i hels; unfold evop; simp only [hs, hm.partsD _ _ _ hels]; exact h
      · cases h
    · cases h
  · -- makeSlice
    split at h
    · rename_i hs hl hc
      split at h
      · rename_i hz; unfold evop; simp only [hs, hm.ev' hl rfl, hm.ev' hc rfl, hz]; exact h
      · cases h
    · cases h
  · -- index
    split at h
    · rename_i hti hi
      split at h
      · rename_i hsh
        split at h
        · rename_i het
          split at h
          · rename_i hc
            have hc' := hc
            simp only [Bool.and_eq_true] at hc'
            have hne := isAgg_ne hc'.1.1
            unfold evop; simp only [hti, hm.ev hne, hm.ev' hi rfl, hsh, het, hc, if_true]; exact h
          · cases h
        · cases h
      · cases h
    · cases h
  · -- lookup
    split at h
    · rename_i hti hx hi
      split at h
      · rename_i hsh hf; unfold evop; simp only [hti, hm.ev' hx rfl, hm.ev' hi rfl, hsh, hf]; exact h
      · cases h
    · cases h
  · -- build
    split at h
    · rename_i hti
      split at h
      · rename_i hsh
        split at h
        · rename_i hc; unfold evop; simp only [hti, hsh, hm.partsV _ _ _ hc]; exact h
        · cases h
      · rename_i hsh
        split at h
        · rename_i het
          split at h
          · rename_i hc; unfold evop; simp only [hti, hsh, het, hm.partsV _ _ _ hc]; exact h
          · cases h
        · cases h
      · cases h
    · cases h
  · -- makeFunc
    split at h
    · rename_i h0
      have hmap : ∀ (xs : List Operand), (xs.all fun x => !(ev T x).isUndef) = true → xs.map (ev T') = xs.map (ev T) ∧ (xs.all fun x => !(ev T' x).isUndef) = true := by
        intro xs
        induction xs with
        | nil => intro _; exact ⟨rfl, rfl⟩
        | cons x r ih =>
          intro hx
          simp only [List.all_cons, Bool.and_eq_true, Bool.not_eq_true'] at hx
          obtain ⟨i1, i2⟩ := ih hx.2
          have e := hm.ev hx.1
          simp [e, i1, hx.1]
          simpa using i2
      obtain ⟨e1, e2⟩ := hmap _ h0
      unfold evop
      simp only [e1, e2, if_true]; exact h
    · cases h
  · -- nilCheck
    split at h
    · rename_i hx
      have hne : (ev T ‹Operand›).isUndef = false := by
        revert hx
        generalize ev T _ = v
        intro hx
        cases v with
        | d x => cases x <;> simp_all [AM.isPtr, V.isUndef]
        | _ => rfl
      unfold evop; simp only [hm.ev hne, hm.isPtr hx, if_true]; exact h
    · cases h
  · -- convert
    split at h
    · rename_i hsi hti hx; unfold evop; simp only [hsi, hti, hm.ev' hx rfl]; exact h
    · cases h
  · -- len
    split at h
    · rename_i x t hargs htys
      split at h
      · rename_i hs hl
        have hne : (ev T x).isUndef = false := by
          revert hl
          generalize ev T _ = v
          intro hl
          cases v with
          | d x => cases x <;> simp_all [AM.lenOf, V.isUndef]
          | _ => rfl
        unfold evop; simp only [hargs, htys, hs, hm.ev hne, hm.lenOf hl]; exact h
      · cases h
    · cases h
  · -- append
    split at h
    · rename_i x y t u hargs htys
      split at h
      · rename_i hs hs' hy
        have hne : (ev T y).isUndef = false := by
          revert hy
          generalize ev T _ = v
          intro hl
          cases v with
          | d x => cases x <;> simp_all [AM.elems, V.isUndef]
          | _ => rfl
        split at h
        · rename_i hc
          split at h
          · rename_i hx; unfold evop; simp only [hargs, htys, hs, hs', hm.ev hne, hm.elems hy, hc, if_true, hm.ev' hx rfl]; exact h
          · rename_i hx
            split at h
            · rename_i hg; unfold evop; simp only [hargs, htys, hs, hs', hm.ev hne, hm.elems hy, hc, if_true, hm.ev' hx rfl, hm.get hg (by simp)]; exact h
            · cases h
          · cases h
        · cases h
      · rename_i hs hs'
        split at h
        · rename_i hui hx hy
          split at h
          · rename_i hush hg hz; unfold evop; simp only [hargs, htys, hs, hs', hui, hm.ev' hx rfl, hm.ev' hy rfl, hush, hm.get hg (by simp), hz]; exact h
          · cases h
        · cases h
      · cases h
    · cases h
  · -- min
    split at h
    · rename_i x y hargs
      split at h
      · rename_i hx hy
        unfold evop; simp only [hargs, hm.ev' hx rfl, hm.ev' hy rfl]; exact h
      · cases h
    · cases h
  · -- max
    split at h
    · rename_i x y hargs
      split at h
      · rename_i hx hy
        unfold evop; simp only [hargs, hm.ev' hx rfl, hm.ev' hy rfl]; exact h
      · cases h
    · rename_i x y z hargs
      split at h
      · rename_i hx hy hz
        unfold evop; simp only [hargs, hm.ev' hx rfl, hm.ev' hy rfl, hm.ev' hz rfl]; exact h
      · cases h
    · cases h
  · -- cap
    split at h
    · rename_i x t hargs htys
      split at h
      · rename_i hs hx; unfold evop; simp only [hargs, htys, hs, hm.ev' hx rfl]; exact h
      · cases h
    · cases h
  · -- copy
    split at h
    · rename_i x y t u hargs htys
      split at h
      · rename_i hs hs' hx hy
        have hne : (ev T y).isUndef = false := by
          revert hy
          generalize ev T _ = v
          intro hl
          cases v with
          | d x => cases x <;> simp_all [AM.elems, V.isUndef]
          | _ => rfl
        split at h
        · rename_i hg; unfold evop; simp only [hargs, htys, hs, hs', hm.ev' hx rfl, hm.ev hne, hm.elems hy, hm.get hg (by simp)]; exact h
        · cases h
      · rename_i hs hs' hx hy
        have hne : (ev T y).isUndef = false := by
          revert hy
          generalize ev T _ = v
          intro hl
          cases v with
          | d x => cases x <;> simp_all [AM.elems, V.isUndef]
          | _ => rfl
        split at h
        · rename_i hg; unfold evop; simp only [hargs, htys, hs, hs', hm.ev' hx rfl, hm.ev hne, hm.elems hy, hm.get hg (by simp)]; exact h
        · cases h
      · cases h
    · cases h
  · -- clear
    split at h
    · rename_i x t hargs htys
      split at h
      · rename_i hs hx
        split at h
        · rename_i hg hz
          unfold evop; simp only [hargs, htys, hs, hm.ev' hx rfl, hm.get hg (by simp), hz]; exact h
        · cases h
      · cases h
    · cases h
  · cases h

end
end Go.Proofs.Ytaejlmengfahnaa.AM

set_option linter.all false
namespace Go.Proofs.Ytaejlmengfahnaa.AM
open Go Go.RowKit

section
variable {P : Program} {E : Env} {C : Ctx} {φ φ' : Nat → Option Loc} {S S' : Nat → Prop} {H H' : Heap} {w w' : World} {T T' : Tmps} {a : Act} {n m : Nat}

mutual
theorem xport_more (hm : ∀ id, hget H id = .unborn ∨ hget H' id = hget H id) : ∀ (k : Nat) (v : V) (x : D), xport H k v = some x → xport H' k v = some x
  | 0, v, x, h => by simp [xport] at h
  | k + 1, v, x, h => by
    cases v with
    | ptr id i j =>
      rcases hm id with h1 | h1
      · simp [xport, h1] at h
      · simp only [xport, h1] at h ⊢
        split at h
        · rename_i fz cells hg
          split at h
          · split at h
            · rename_i ds hds
              simp only [xports_more hm k cells ds hds]; simp_all
            · cases h
          · cases h
        · split at h <;> simp_all
        · cases h
    | own id off len =>
      rcases hm id with h1 | h1
      · simp [xport, h1] at h
      · simp only [xport, h1] at h ⊢; exact h
    | full => simp [xport] at h
    | agg vs =>
      simp only [xport] at h ⊢
      split at h
      · rename_i ds hds; simp only [xports_more hm k vs ds hds]; exact h
      · cases h
    | tuple vs =>
      simp only [xport] at h ⊢
      split at h
      · rename_i ds hds; simp only [xports_more hm k vs ds hds]; exact h
      · cases h
    | func f vs =>
      simp only [xport] at h ⊢
      split at h
      · rename_i ds hds; simp only [xports_more hm k vs ds hds]; exact h
      · cases h
    | d y => simpa [xport] using h
    | nils => simpa [xport] using h
theorem xports_more (hm : ∀ id, hget H id = .unborn ∨ hget H' id = hget H id) : ∀ (k : Nat) (vs : List V) (xs : List D), xports H k vs = some xs → xports H' k vs = some xs
  | 0, vs, xs, h => by simp [xports] at h
  | k + 1, [], xs, h => by simpa [xports] using h
  | k + 1, v :: r, xs, h => by
    simp only [xports] at h ⊢
    split at h
    · rename_i y ys hy hys
      simp only [xport_more hm k v y hy, xports_more hm k r ys hys]; exact h
    · cases h
end

mutual
theorem tids_nil : ∀ (k : Nat) (v : V), tids H k v = [] → tids H' k v = []
  | 0, v, _ => by simp [tids]
  | k + 1, v, h => by
    cases v with
    | ptr id i j => simp only [tids] at h; split at h <;> simp at h
    | own id off len => simp [tids] at h
    | full => simp [tids]
    | agg vs => simp only [tids] at h ⊢; exact tidss_nil k vs h
    | tuple vs => simp only [tids] at h ⊢; exact tidss_nil k vs h
    | func f vs => simp only [tids] at h ⊢; exact tidss_nil k vs h
    | d y => simp [tids]
    | nils => simp [tids]
theorem tidss_nil : ∀ (k : Nat) (vs : List V), tidss H k vs = [] → tidss H' k vs = []
  | 0, vs, _ => by simp [tidss]
  | k + 1, [], _ => by simp [tidss]
  | k + 1, v :: r, h => by
    simp only [tidss, List.append_eq_nil_iff] at h ⊢
    exact ⟨tids_nil k v h.1, tidss_nil k r h.2⟩
end


theorem RV.congr (hH : ∀ id, hget H' id = hget H id) {v : V} {c : Value} (h : RV φ S H w v c) : RV φ S H' w v c :=
  h.step ⟨.refl _ _, fun id hu => by
    rw [hH]
    exact (Step.refl (φ := φ) (S := S) (H := H) (w := w)).keepH id hu⟩

theorem HRel.congr (hH : ∀ id, hget H' id = hget H id) (h : HRel C φ S H w) : HRel C φ S H' w :=
  ⟨h.n0, h.own, h.vis, h.inj, fun id => by
    rw [hH]
    exact (h.blk id).keep ⟨.refl _ _, fun id hu => by rw [hH]; exact (Step.refl (φ := φ) (S := S) (H := H) (w := w)).keepH id hu⟩ rfl (fun _ _ => ⟨rfl, Iff.rfl⟩), h.low⟩

theorem Stands.congr (hT : ∀ t, tget T' t = tget T t) (hH : ∀ id, hget H' id = hget H id) (h : Stands C n T H φ S a w) : Stands C n T' H' φ S a w :=
  ⟨h.heap.congr hH, fun t => by rw [hT]; exact (h.tmps t).congr hH, h.size, h.defers⟩

theorem StepM.congr {H2 : Heap} (hH : ∀ id, hget H2 id = hget H' id) (h : StepM m φ S H w φ' S' H' w') : StepM m φ S H w φ' S' H2 w' :=
  ⟨h.keepS, h.size, fun id hm hu => by rw [hH]; exact h.keepH id hm hu⟩


section plan
variable {all : Array Oper} {plan : List PE}

theorem dstOk_iff {o ok : Oper} {ms : List Nat} (h : dstOk o ok ms = true) : ∀ t, ok.dst = some t → t ∈ ms ∧ o.dst ≠ some t := by
  intro t ht
  unfold dstOk at h
  rw [ht] at h
  simpa using h

theorem plan_at (hp : planOk all.toList plan = true) {i : Nat} {o : Oper} {e : PE} (ho : all[i]? = some o) (he : plan[i]? = some e) :
    (∀ d ∈ depsOf o, d < i) ∧ (∀ j ∈ e.B, ∃ d ∈ depsOf o, j = d ∨ j ∈ planB plan d) ∧
    (∀ (k : Nat) (ok : Oper), all[k]? = some ok → k = i ∨ k ∈ e.B ∨ i ∈ planB plan k ∨ (e.bar = false ∧ (i < k ∨ k ∈ e.mi) ∧ ∀ t, ok.dst = some t → t ∈ e.ms ∧ o.dst ≠ some t) ∨
      (e.bar = true ∧ k < i ∧ planLag plan k = true ∧ ∀ t, ok.dst = some t → t ∈ e.ms ∧ o.dst ≠ some t)) ∧
    (e.lag = true → pureOp o = true ∧ e.bar = false ∧ (∀ t, o.dst = some t → t ∈ e.ms) ∧ ∀ (k : Nat) (ok : Oper), all[k]? = some ok → k = i ∨ k ∈ e.B ∨ (∀ t, ok.dst = some t → t ∈ e.ms ∧ o.dst ≠ some t) ∨ (i ∈ planB plan k ∧ planLag plan k = false)) := by
  have hi : i < all.size := (Array.getElem?_eq_some_iff.1 ho).1
  unfold planOk at hp
  simp only [Bool.and_eq_true, List.all_eq_true, List.mem_range, Array.length_toList] at hp
  have h := hp.2 i hi
  simp only [Array.getElem?_toList, ho, he, Bool.and_eq_true, List.all_eq_true, decide_eq_true_eq, List.any_eq_true, Bool.or_eq_true, beq_iff_eq, List.contains_iff_mem, List.mem_range, Array.length_toList] at h
  obtain ⟨⟨⟨h1, h2⟩, h4⟩, h3⟩ := h
  refine ⟨h1, fun j hj => ?_, fun k ok hk => ?_, fun hl => ?_⟩
  · obtain ⟨d, hd, hh⟩ := h2 j hj
    exact ⟨d, hd, hh.imp Eq.symm id⟩
  · have hk' : k < all.size := (Array.getElem?_eq_some_iff.1 hk).1
    have := h3 k hk'
    simp only [hk, Bool.or_eq_true, beq_iff_eq, List.contains_iff_mem, Bool.and_eq_true, decide_eq_true_eq] at this
    rcases this with (((h | h) | h) | h) | h
    · exact .inl h
    · exact .inr (.inl h)
    · exact .inr (.inr (.inl h))
    · exact .inr (.inr (.inr (.inl ⟨by simpa using h.1.1, h.1.2, dstOk_iff h.2⟩)))
    · exact .inr (.inr (.inr (.inr ⟨h.1.1.1, h.1.1.2, h.1.2, dstOk_iff h.2⟩)))
  · rcases h4 with h4 | h4
    · rw [hl] at h4; cases h4
    · obtain ⟨⟨⟨g1, g2⟩, g3⟩, g4⟩ := h4
      refine ⟨g1, by simpa using g2, fun t ht => by rw [ht] at g3; simpa using g3, fun k ok hk => ?_⟩
      have hk' : k < all.size := (Array.getElem?_eq_some_iff.1 hk).1
      have := g4 k hk'
      simp only [hk, Bool.or_eq_true, beq_iff_eq, List.contains_iff_mem, Bool.and_eq_true, Bool.not_eq_true'] at this
      rcases this with ((h | h) | h) | h
      · exact .inl h
      · exact .inr (.inl h)
      · exact .inr (.inr (.inl (dstOk_iff h)))
      · exact .inr (.inr (.inr h))

theorem plan_some (hp : planOk all.toList plan = true) {i : Nat} (hi : i < all.size) : ∃ e, plan[i]? = some e := by
  unfold planOk at hp
  simp only [Bool.and_eq_true, beq_iff_eq, Array.length_toList] at hp
  exact ⟨plan[i], by rw [List.getElem?_eq_getElem]⟩

theorem planB_lt (hp : planOk all.toList plan = true) : ∀ (i j : Nat), j ∈ planB plan i → i < all.size → j < i := by
  intro i
  induction i using Nat.strongRecOn with
  | _ i ih =>
    intro j hj hi
    obtain ⟨e, he⟩ := plan_some hp hi
    have ho : all[i]? = some all[i] := by simp [hi]
    obtain ⟨h1, h2, _, _⟩ := plan_at hp ho he
    simp only [planB, he] at hj
    obtain ⟨d, hd, hh⟩ := h2 j hj
    have hdi := h1 d hd
    rcases hh with rfl | hh
    · exact hdi
    · exact Nat.lt_trans (ih d hdi j hh (by omega)) hdi

def Closed (all : Array Oper) (listed : Array Bool) : Prop := ∀ (j : Nat) (o : Oper), listed.getD j false = true → all[j]? = some o → ∀ d ∈ depsOf o, listed.getD d false = true

theorem closed_B (hp : planOk all.toList plan = true) {listed : Array Bool} (hc : Closed all listed) : ∀ (i j : Nat) (o : Oper), all[i]? = some o → (∀ d ∈ depsOf o, listed.getD d false = true) → j ∈ planB plan i → listed.getD j false = true := by
  intro i
  induction i using Nat.strongRecOn with
  | _ i ih =>
    intro j o ho hd hj
    have hi : i < all.size := (Array.getElem?_eq_some_iff.1 ho).1
    obtain ⟨e, he⟩ := plan_some hp hi
    obtain ⟨h1, h2, _, _⟩ := plan_at hp ho he
    simp only [planB, he] at hj
    obtain ⟨d, hdd, hh⟩ := h2 j hj
    rcases hh with rfl | hh
    · exact hd j hdd
    · have hdi := h1 d hdd
      have hod : all[d]? = some all[d] := by simp
      exact ih d hdi j all[d] hod (hc d all[d] (hd d hdd) hod) hh

theorem ready_deps {listed : Array Bool} {j : Nat} (h : j ∈ Region.ready .any all listed) : listed.getD j true = false ∧ ∃ o, all[j]? = some o ∧ ∀ d ∈ depsOf o, listed.getD d false = true := by
  obtain ⟨h0, o, ho, hall⟩ := mem_ready.1 h
  refine ⟨h0, o, ho, fun d hd => ?_⟩
  simp only [depsOf, List.mem_map, List.mem_filter, Array.mem_toList_iff] at hd
  obtain ⟨e, ⟨he, hb⟩, rfl⟩ := hd
  exact hall e he hb

theorem not_ready {listed : Array Bool} (hsz : listed.size = all.size) (hp : planOk all.toList plan = true) (h : Region.ready .any all listed = []) : ∀ j, j < all.size → listed.getD j false = true := by
  intro j
  induction j using Nat.strongRecOn with
  | _ j ih =>
    intro hj
    cases hl : listed.getD j false with
    | true => rfl
    | false =>
      exfalso
      have hmem : j ∈ Region.ready .any all listed := by
        rw [mem_ready]
        refine ⟨?_, all[j], by simp, fun e he hb => ?_⟩
        · have hjs : j < listed.size := by omega
          simp [hjs] at hl ⊢; exact hl
        · obtain ⟨pe, hpe⟩ := plan_some hp hj
          have hlt := (plan_at hp (by simp : all[j]? = some all[j]) hpe).1 e.on (by
            simp only [depsOf, List.mem_map, List.mem_filter, Array.mem_toList_iff]
            exact ⟨e, ⟨he, hb⟩, rfl⟩)
          exact ih e.on hlt (by omega)
      rw [h] at hmem; simp at hmem

theorem Closed.set {listed : Array Bool} (hc : Closed all listed) {j : Nat} {o : Oper} (ho : all[j]? = some o) (hd : ∀ d ∈ depsOf o, listed.getD d false = true) : Closed all (listed.setIfInBounds j true) := by
  intro i oi hi hoi d hdd
  by_cases e : j = i
  · subst e
    rw [ho] at hoi; cases hoi
    exact getD_set_true (hd d hdd)
  · rw [getD_set_ne false e] at hi
    exact getD_set_true (hc i oi hi hoi d hdd)
end plan

end
end Go.Proofs.Ytaejlmengfahnaa.AM

set_option linter.all false
namespace Go.Proofs.Ytaejlmengfahnaa.AM
open Go Go.RowKit

def dstAt (all : Array Oper) (j : Nat) : Option Nat := (all[j]?).bind (·.dst)

def gT (n : Nat) (all : Array Oper) (R : Nat → V × Blk) (p : Nat → Bool) : Nat → Nat → Tmps → Tmps
  | 0, _, T => T
  | k + 1, i, T => gT n all R p k (i + 1) (if p i then tput n T (dstAt all i) (R i).1 else T)

def gH (s L0 : Nat) (R : Nat → V × Blk) (p : Nat → Bool) : Nat → Nat → Heap → Heap
  | 0, _, H => H
  | k + 1, i, H => gH s L0 R p k (i + 1) (if p i then hput H (L0 + (i - s)) (R i).2 else H)

section
variable {P : Program} {E : Env} {C : Ctx} {φ φ' : Nat → Option Loc} {S S' : Nat → Prop} {H H' : Heap} {w w' : World} {T T' : Tmps} {a : Act} {n m : Nat} {all : Array Oper} {plan : List PE} {R R' : Nat → V × Blk} {p q : Nat → Bool} {s L0 : Nat}

theorem tget_tput_ne {T : Tmps} {dst : Option Nat} {v : V} {t : Nat} (h : dst ≠ some t) : tget (tput n T dst v) t = tget T t := by
  cases dst with
  | none => rfl
  | some d =>
    simp only [tput]
    split
    · simp only [tget]; rw [if_neg (fun e => h (by rw [e]))]
    · rfl

theorem tget_tput_congr {T T' : Tmps} {dst : Option Nat} {v : V} (h : ∀ t, tget T t = tget T' t) (t : Nat) : tget (tput n T dst v) t = tget (tput n T' dst v) t := by
  cases dst with
  | none => exact h t
  | some d =>
    simp only [tput]
    split
    · simp only [tget]; split
      · rfl
      · exact h t
    · exact h t

theorem tget_tput_eq {T : Tmps} {v : V} {t : Nat} (h : t < n) : tget (tput n T (some t) v) t = v := by simp [tput, h, tget]

theorem tget_tput_cong1 {T T' : Tmps} {dst : Option Nat} {v : V} {t : Nat} (h : tget T t = tget T' t) : tget (tput n T dst v) t = tget (tput n T' dst v) t := by
  by_cases hd : dst = some t
  · subst hd
    simp only [tput]
    split
    · simp [tget]
    · exact h
  · rw [tget_tput_ne hd, tget_tput_ne hd]; exact h

theorem gT_same {t : Nat} : ∀ (k i : Nat) (T T' : Tmps), (∀ j, i ≤ j → j < i + k → dstAt all j = some t → p j = q j) → tget T t = tget T' t → tget (gT n all R p k i T) t = tget (gT n all R q k i T') t
  | 0, _, _, _, _, h => h
  | k + 1, i, T, T', hpq, h => by
    simp only [gT]
    refine gT_same k (i + 1) _ _ (fun j h1 h2 => hpq j (by omega) (by omega)) ?_
    by_cases hd : dstAt all i = some t
    · rw [hpq i (by omega) (by omega) hd]
      split
      · exact tget_tput_cong1 h
      · exact h
    · have e1 : tget (if p i = true then tput n T (dstAt all i) (R i).1 else T) t = tget T t := by split; exact tget_tput_ne hd; rfl
      have e2 : tget (if q i = true then tput n T' (dstAt all i) (R i).1 else T') t = tget T' t := by split; exact tget_tput_ne hd; rfl
      rw [e1, e2]; exact h

theorem gT_un {t : Nat} : ∀ (k i : Nat) (T : Tmps), (∀ j, i ≤ j → j < i + k → p j = true → dstAt all j ≠ some t) → tget (gT n all R p k i T) t = tget T t
  | 0, _, _, _ => rfl
  | k + 1, i, T, h => by
    simp only [gT]
    rw [gT_un k (i + 1) _ (fun j h1 h2 => h j (by omega) (by omega))]
    split
    · rename_i hp; exact tget_tput_ne (h i (by omega) (by omega) hp)
    · rfl

theorem gT_last {t j : Nat} (hj : dstAt all j = some t) (ht : t < n) (hp : p j = true) : ∀ (k i : Nat) (T : Tmps), i ≤ j → j < i + k → (∀ l, j < l → l < i + k → p l = true → dstAt all l ≠ some t) → tget (gT n all R p k i T) t = (R j).1
  | 0, i, _, h1, h2, _ => by omega
  | k + 1, i, T, h1, h2, h => by
    simp only [gT]
    by_cases e : i = j
    · subst e
      rw [gT_un k (i + 1) _ (fun l h3 h4 => h l (by omega) (by omega)), if_pos hp, hj]
      exact tget_tput_eq ht
    · exact gT_last hj ht hp k (i + 1) _ (by omega) (by omega) (fun l h3 h4 => h l h3 (by omega))

theorem gT_congrR : ∀ (k i : Nat) (T : Tmps), (∀ j, i ≤ j → j < i + k → R j = R' j) → gT n all R p k i T = gT n all R' p k i T
  | 0, _, _, _ => rfl
  | k + 1, i, T, h => by
    simp only [gT]
    rw [h i (by omega) (by omega), gT_congrR k (i + 1) _ (fun j h1 h2 => h j (by omega) (by omega))]

theorem gH_congrR : ∀ (k i : Nat) (H : Heap), (∀ j, i ≤ j → j < i + k → R j = R' j) → gH s L0 R p k i H = gH s L0 R' p k i H
  | 0, _, _, _ => rfl
  | k + 1, i, H, h => by
    simp only [gH]
    rw [h i (by omega) (by omega), gH_congrR k (i + 1) _ (fun j h1 h2 => h j (by omega) (by omega))]

theorem gH_get : ∀ (k i : Nat) (H : Heap) (id : Nat), s ≤ i → hget (gH s L0 R p k i H) id = if L0 + (i - s) ≤ id ∧ id < L0 + (i - s) + k ∧ p (s + (id - L0)) = true then (R (s + (id - L0))).2 else hget H id
  | 0, i, H, id, _ => by simp only [gH]; rw [if_neg (by omega)]
  | k + 1, i, H, id, hs => by
    simp only [gH]
    rw [gH_get k (i + 1) _ id (by omega)]
    by_cases h1 : L0 + (i + 1 - s) ≤ id ∧ id < L0 + (i + 1 - s) + k ∧ p (s + (id - L0)) = true
    · rw [if_pos h1, if_pos ⟨by omega, by omega, h1.2.2⟩]
    · rw [if_neg h1]
      by_cases h2 : id = L0 + (i - s)
      · have e : s + (id - L0) = i := by omega
        rw [e]
        by_cases hp : p i = true
        · rw [if_pos hp, hget_hput, if_pos h2, if_pos ⟨by omega, by omega, hp⟩]
        · rw [if_neg hp, if_neg (fun h => hp h.2.2)]
      · have e1 : hget (if p i = true then hput H (L0 + (i - s)) (R i).2 else H) id = hget H id := by
          split
          · rw [hget_hput, if_neg h2]
          · rfl
        rw [e1, if_neg (fun h => h1 ⟨by omega, by omega, h.2.2⟩)]

theorem maskT_get (ms : List Nat) (T : Tmps) (t : Nat) : tget (maskT ms T) t = if t ∈ ms then .d .undef else tget T t := by
  unfold maskT
  induction ms with
  | nil => simp
  | cons x r ih =>
    simp only [List.map_cons, List.cons_append, tget]
    by_cases h : t = x
    · subst h; simp
    · rw [if_neg h, ih]; simp [h]

theorem maskH_get (id : Nat) : ∀ (mi : List Nat) (H : Heap), hget (maskH s L0 mi H) id = if ∃ k ∈ mi, s ≤ k ∧ id = L0 + (k - s) then .unborn else hget H id
  | [], H => by simp [maskH]
  | k :: r, H => by
    simp only [maskH]
    rw [maskH_get id r]
    by_cases h1 : ∃ k ∈ r, s ≤ k ∧ id = L0 + (k - s)
    · rw [if_pos h1, if_pos]
      obtain ⟨k', hk', h⟩ := h1
      exact ⟨k', by simp [hk'], h⟩
    · rw [if_neg h1]
      by_cases h2 : s ≤ k ∧ id = L0 + (k - s)
      · rw [if_pos h2.1, hget_hput, if_pos h2.2, if_pos ⟨k, by simp, h2⟩]
      · have : ¬ ∃ k' ∈ k :: r, s ≤ k' ∧ id = L0 + (k' - s) := by
          rintro ⟨k', hk', h⟩
          rcases List.mem_cons.1 hk' with rfl | hk'
          · exact h2 h
          · exact h1 ⟨k', hk', h⟩
        rw [if_neg this]
        split
        · rename_i h3
          rw [hget_hput, if_neg (fun e => h2 ⟨h3, e⟩)]
        · rfl

theorem Stands.bury (hst : Stands C n T H φ S a w) {nid : Nat} (hu : hget H nid = .unborn) : Stands C n T (hput H nid .dead) φ S a w ∧ Step φ S H w φ S (hput H nid .dead) w := by
  have hs : Step φ S H w φ S (hput H nid .dead) w := ⟨.refl _ _, fun id hid => by
    have hne : id ≠ nid := fun e => hid (by rw [e]; exact hu)
    rw [hget_hput, if_neg hne]
    exact (Step.refl (φ := φ) (S := S) (H := H) (w := w)).keepH id hid⟩
  refine ⟨⟨⟨hst.heap.n0, hst.heap.own, hst.heap.vis, hst.heap.inj, fun id => ?_, hst.heap.low⟩, hst.tmps.step hs, hst.size, hst.defers⟩, hs⟩
  rw [hget_hput]
  by_cases e : id = nid
  · rw [if_pos e]
    have := hst.heap.blk nid
    rw [hu] at this
    rw [e]; exact this
  · rw [if_neg e]; exact (hst.heap.blk id).keep hs rfl (fun _ _ => ⟨rfl, Iff.rfl⟩)

theorem RSpec.bury {f : Nat} {vs : List V} {r : V} {H H' : Heap} {nid : Nat} (h : RSpec P f vs H r H') (hu : hget H' nid = .unborn) : RSpec P f vs H r (hput H' nid .dead) := by
  refine ⟨h.1, fun C φ S w cs hH hv => (h.2 C φ S w cs hH hv).mono ?_⟩
  rintro e w' ⟨c, φ', S', rfl, h1, h2, h3, h4⟩
  have hst : Stands C 1 [(0, r)] H' φ' S' { tmps := #[c], defers := [] } w' := ⟨h2, fun t => by
    simp only [tget]
    split
    · rename_i e; subst e; exact h1
    · exact .d _ _ (.undef _), rfl, rfl⟩
  obtain ⟨g1, g2⟩ := hst.bury hu
  have := g1.tmps 0
  exact ⟨c, φ', S', rfl, by simpa [tget] using this, g1.heap, h3.trans g2 h4.size (Nat.le_refl _), h4⟩

theorem DSpec.flat {f : Nat} {vs : List V} {ds : List D} {r : D} {H : Heap} {nid : Nat} (hx : xports H 40 vs = some ds) (h : CSpec P f ds r) (hr : r.flat = true) : DSpec P f vs H nid (.d r) .dead := fun H' hm hu =>
  (CSpec.flat 40 (xports_more hm 40 _ ds hx) h hr).bury hu

theorem DSpec.still {f : Nat} {vs : List V} {ds : List D} {r : D} {H : Heap} {nid : Nat} (hx : xports H 40 vs = some ds) (h : CSpec P f ds r) (hi : tidss H 40 vs = []) : DSpec P f vs H nid (.d r) .dead := fun H' hm hu => by
  have := CSpec.ice (H := H') 40 (xports_more hm 40 _ ds hx) h
  have hi' : tidss H' 40 vs = [] := tidss_nil 40 _ hi
  rw [hi'] at this
  exact this.bury hu

def Done (C : Ctx) (n m : Nat) (φ : Nat → Option Loc) (S : Nat → Prop) (H : Heap) (w : World) (T1 : Tmps) (H1 : Heap) : Act → World → Prop := fun a' w' =>
  ∃ φ' S', Stands C n T1 H1 φ' S' a' w' ∧ StepM m φ S H w φ' S' H1 w' ∧ Kp C w w'

theorem hget_len : ∀ (H : Heap), hget H H.length = .unborn
  | [] => rfl
  | _ :: H => hget_len H

theorem evop_pure {o : Oper} (ho : pureOp o = true) (hH : H = []) {nid : Nat} {p : Prop} {v : V} {ch : Ch} (h : evop E T H nid o.op = some (p, v, ch)) : ch = .no ∧ ∀ nid', evop E T [] nid' o.op = some (p, v, .no) := by
  have hg : (match o.op with
    | .move _ | .assign _ | .pick .. | .unOp .. | .binOp .. | .extract .. | .convert .. | .slice .. | .load .. | .fieldAddr .. | .indexAddr .. | .build .. => true
    | _ => false) = true := by unfold pureOp at ho; simp only [Bool.and_eq_true] at ho; exact ho.2
  have key : ch = .no → (∀ nid', evop E T [] nid' o.op = evop E T H nid o.op) → ch = .no ∧ ∀ nid', evop E T [] nid' o.op = some (p, v, .no) := fun h1 h2 => ⟨h1, fun nid' => by rw [h2 nid', h, h1]⟩
  revert h hg key
  cases o.op with
  | move x => intro h hg key; exact key (by simp only [evop] at h; split at h <;> simp [ok] at h; exact h.2.2.symm) (fun _ => rfl)
  | assign x => intro h hg key; exact key (by simp only [evop] at h; split at h <;> simp [ok] at h; exact h.2.2.symm) (fun _ => rfl)
  | pick c a b =>
    intro h hg key
    refine key ?_ (fun _ => rfl)
    simp only [evop] at h
    split at h
    · split at h <;> simp [ok] at h; exact h.2.2.symm
    · split at h <;> simp [ok] at h; exact h.2.2.symm
    · cases h
  | unOp u t x =>
    intro h hg key
    refine key ?_ (fun _ => by cases u <;> rfl)
    cases u <;> simp only [evop] at h <;> first | cases h | (split at h <;> simp [ok] at h; exact h.2.2.symm)
  | extract x i =>
    intro h hg key
    refine key ?_ (fun _ => rfl)
    simp only [evop] at h
    split at h
    · split at h <;> simp [ok] at h; exact h.2.2.symm
    · split at h <;> simp [ok] at h; exact h.2.2.symm
    · cases h
  | convert s t x =>
    intro h hg key
    refine key ?_ (fun _ => rfl)
    simp only [evop] at h
    split at h
    · split at h <;> simp [ok] at h; exact h.2.2.symm
    · cases h
  | slice t x lo hi mx =>
    intro h hg key
    subst hH
    cases mx with
    | some _ => simp [evop] at h
    | none =>
    refine key ?_ (fun _ => rfl)
    simp only [evop] at h
    (repeat' split at h) <;> first | (cases h; done) | (simp [ok] at h; exact h.2.2.symm) | (simp at h; exact h.2.2.symm) | (simp_all)
  | load t x =>
    intro h hg key
    subst hH
    refine key ?_ (fun _ => rfl)
    simp only [evop, loadD] at h
    (repeat' split at h) <;> first | (cases h; done) | (simp [ok] at h; exact h.2.2.symm) | (simp at h; exact h.2.2.symm) | (simp_all)
  | indexAddr t x ix =>
    intro h hg key
    subst hH
    refine key ?_ (fun _ => rfl)
    simp only [evop] at h
    (repeat' split at h) <;> first | (cases h; done) | (simp [ok] at h; exact h.2.2.symm) | (simp at h; exact h.2.2.symm) | (simp_all)
  | build t parts =>
    intro h hg key
    refine key ?_ (fun _ => rfl)
    simp only [evop] at h
    (repeat' split at h) <;> first | (cases h; done) | (simp [ok] at h; exact h.2.2.symm) | (simp at h; exact h.2.2.symm) | (simp_all)
  | fieldAddr t x f =>
    intro h hg key
    subst hH
    refine key ?_ (fun _ => rfl)
    simp only [evop] at h
    (repeat' split at h) <;> first | (cases h; done) | (simp [ok] at h; exact h.2.2.symm) | (simp at h; exact h.2.2.symm) | (simp_all)
  | binOp op t x y t' =>
    intro h hg key
    refine key ?_ (fun _ => rfl)
    simp only [evop] at h
    split at h
    · split at h
      · split at h
        · simp at h; exact h.2.2.symm
        · cases h
      · split at h
        · split at h
          · simp at h; exact h.2.2.symm
          · cases h
        · split at h
          · simp at h; exact h.2.2.symm
          · cases h
        · cases h
    · split at h
      · split at h <;> simp [ok] at h; exact h.2.2.symm
      · split at h <;> simp [ok] at h; exact h.2.2.symm
      · cases h
    · split at h
      · split at h
        · split at h <;> simp [ok] at h <;> exact h.2.2.symm
        · cases h
      · cases h
  | _ => intro _ hg; simp at hg

theorem dstep_sound (hE : EOk P E) {o : Oper} {nid : Nat} {K : V → Blk → Prop} (h : dstep P E o T H nid K) :
    ∃ v b, K v b ∧ (∀ {T' : Tmps} {H' : Heap} {C : Ctx} {φ : Nat → Option Loc} {S : Nat → Prop} {a : Act} {w : World} (Q' : Exit → Act → World → Prop), Stands C n T' H' φ S a w → More T H T' H' → hget H' nid = .unborn →
      o.wp P a w (Done C n m φ S H' w (tput n T' o.dst v) (hput H' nid b)) Q') ∧
      (pureOp o = true → H = [] → b = .dead ∧ ∀ {T' : Tmps} {H' : Heap} {C : Ctx} {φ : Nat → Option Loc} {S : Nat → Prop} {a : Act} {w : World} (Q' : Exit → Act → World → Prop), Stands C n T' H' φ S a w → (∀ t, tget T t = .d .undef ∨ tget T' t = tget T t) →
        o.wp P a w (Done C n m φ S H' w (tput n T' o.dst v) H') Q') := by
  have other : ∀ {v : V} {ch : Ch} {p : Prop} {b : Blk}, evop E T H nid o.op = some (p, v, ch) → p → ((ch = .no ∧ b = .dead) ∨ ch = .new b) → ∀ {T' : Tmps} {H' : Heap} {C : Ctx} {φ : Nat → Option Loc} {S : Nat → Prop} {a : Act} {w : World} (Q' : Exit → Act → World → Prop), Stands C n T' H' φ S a w → More T H T' H' → hget H' nid = .unborn →
      o.wp P a w (Done C n m φ S H' w (tput n T' o.dst v) (hput H' nid b)) Q' := by
    intro v ch p b he hp hch T' H' C φ S a w Q' hst hm hu
    obtain ⟨c, w', φ', hg, hv, hH, hs, hk⟩ := evop_sound hE (evop_more hm he) hp hu hst.heap hst.tmps
    have hn : Done C n m φ S H' w (tput n T' o.dst v) (hput H' nid b) (a.put o.dst c) w' := by
      have hst' := hst.put (o := o) hH hs hv
      rcases hch with ⟨rfl, rfl⟩ | rfl
      · obtain ⟨g1, g2⟩ := hst'.bury hu
        exact ⟨φ', S, g1, (hs.trans g2 hk.size (Nat.le_refl _)).toM hk.size, hk⟩
      · exact ⟨φ', S, hst', hs.toM hk.size, hk⟩
    unfold Oper.wp
    rcases hg with hg | ⟨hg, rfl⟩ <;> rw [hg] <;> exact hn
  unfold dstep at h
  split at h
  · rename_i fo args tys hop
    split at h
    · rename_i f gg hc
      obtain ⟨hnu, v, b, hD, hK⟩ := h
      refine ⟨v, b, hK, ?_, fun hp _ => absurd hp (by simp [pureOp, hop])⟩
      intro T' H' C φ S a w Q' hst hm hu
      have hfo : ev T' fo = ev T fo := hm.ev (by
        revert hc
        unfold calleeOf
        generalize ev T fo = v
        intro hc
        cases v with
        | d x => cases x <;> simp_all [V.isUndef]
        | _ => rfl)
      have hc' : calleeOf T' fo = some (f, gg) := by unfold calleeOf at hc ⊢; rw [hfo]; exact hc
      have hargs' : args.toList.map (ev T') = args.toList.map (ev T) := by
        apply List.map_congr_left
        intro x hx
        have := List.all_eq_true.1 hnu x hx
        exact hm.ev (by simpa using this)
      have hr : RSpec P f (gg (args.toList.map (ev T'))) H' v (hput H' nid b) := by
        rw [hargs']; exact hD H' hm.blk hu
      obtain ⟨fs, cs, e1, e2⟩ := calleeOf_rel hst.tmps hc'
      have hargs := evs_rel hst.tmps args.toList
      have hcall := hr.2 C φ S w (fs ++ (args.toList.map a.eval ++ cs)) hst.heap (e2 _ _ hargs)
      have hrun : (execOp a.eval o).run P w = .ok (.enter f (fs ++ (args.toList.map a.eval ++ cs)).toArray) w := by
        have harr : fs.toArray ++ args.map a.eval ++ cs.toArray = (fs ++ (args.toList.map a.eval ++ cs)).toArray := by apply Array.ext'; simp
        have hcf := hr.1 (fs ++ (args.toList.map a.eval ++ cs)).toArray w
        simp [execOp, hop, resolve, e1, Deferred.ofValue, invoke, harr, -List.append_toArray, hcf]
      unfold Oper.wp
      rw [hrun]
      refine hcall.mono ?_
      rintro e w' ⟨c, φ', S', rfl, h1, h2, h3, h4⟩
      exact ⟨φ', S', hst.put (o := o) h2 h3 h1, h3.toM h4.size, h4⟩
    · exact h.elim
  · split at h
    · rename_i p v he
      refine ⟨v, .dead, h.2, other he h.1 (.inl ⟨rfl, rfl⟩), fun hp hz => ⟨rfl, ?_⟩⟩
      intro T' H' C φ S a w Q' hst hm
      have he' := (evop_pure hp hz he).2 H'.length
      have hu : hget H' H'.length = .unborn := hget_len H'
      obtain ⟨c, w', φ', hg, hv, hH, hs, hk⟩ := evop_sound hE (evop_more ⟨hm, fun id => .inl rfl⟩ he') h.1 hu hst.heap hst.tmps
      have hn : Done C n m φ S H' w (tput n T' o.dst v) H' (a.put o.dst c) w' := ⟨φ', S, hst.put (o := o) hH hs hv, hs.toM hk.size, hk⟩
      unfold Oper.wp
      rcases hg with hg | ⟨hg, rfl⟩ <;> rw [hg] <;> exact hn
    · rename_i p v b he
      refine ⟨v, b, h.2, other he h.1 (.inr rfl), fun hp hz => ?_⟩
      have := (evop_pure hp hz he).1
      cases this
    · exact h.elim

theorem bstep_sound (hE : EOk P E) {o : Oper} {ms : List Nat} {T'' : Tmps} {K : Tmps → Heap → Prop} {Q : Exit → Act → World → Prop} (hst : Stands C n T'' H φ S a w) (hT : ∀ t, t ∉ ms → tget T'' t = tget T t) (h : bstep P E n o ms T H K) :
    o.wp P a w (fun a' w' => ∃ r H1 φ' S', K (tput n T o.dst r) H1 ∧ Stands C n (tput n T'' o.dst r) H1 φ' S' a' w' ∧ StepM m φ S H w φ' S' H1 w' ∧ Kp C w w') Q := by
  have hm : More (maskT ms T) H T'' H := ⟨fun t => by
    rw [maskT_get]
    by_cases ht : t ∈ ms
    · rw [if_pos ht]; exact .inl rfl
    · rw [if_neg ht]; exact .inr (hT t ht), fun id => .inr rfl⟩
  unfold bstep at h
  split at h
  · rename_i fo args tys hop
    split at h
    · rename_i f gg hc
      obtain ⟨hnu, Qf, hr, hK⟩ := h
      have hfo : ev T'' fo = ev (maskT ms T) fo := hm.ev (by
        revert hc
        unfold calleeOf
        generalize ev (maskT ms T) fo = v
        intro hc
        cases v with
        | d x => cases x <;> simp_all [V.isUndef]
        | _ => rfl)
      have hc' : calleeOf T'' fo = some (f, gg) := by unfold calleeOf at hc ⊢; rw [hfo]; exact hc
      have hargs' : args.toList.map (ev T'') = args.toList.map (ev (maskT ms T)) := by
        apply List.map_congr_left
        intro x hx
        have := List.all_eq_true.1 hnu x hx
        exact hm.ev (by simpa using this)
      rw [← hargs'] at hr
      obtain ⟨fs, cs, e1, e2⟩ := calleeOf_rel hst.tmps hc'
      have hargs := evs_rel hst.tmps args.toList
      have hcall := hr.2 C φ S w (fs ++ (args.toList.map a.eval ++ cs)) hst.heap (e2 _ _ hargs)
      have hrun : (execOp a.eval o).run P w = .ok (.enter f (fs ++ (args.toList.map a.eval ++ cs)).toArray) w := by
        have harr : fs.toArray ++ args.map a.eval ++ cs.toArray = (fs ++ (args.toList.map a.eval ++ cs)).toArray := by apply Array.ext'; simp
        have hcf := hr.1 (fs ++ (args.toList.map a.eval ++ cs)).toArray w
        simp [execOp, hop, resolve, e1, Deferred.ofValue, invoke, harr, -List.append_toArray, hcf]
      unfold Oper.wp
      rw [hrun]
      refine hcall.mono ?_
      rintro e w' ⟨r, H1, hq, c, φ', S', rfl, h1, h2, h3, h4⟩
      exact ⟨r, H1, φ', S', hK _ _ hq, hst.put (o := o) h2 h3 h1, h3.toM h4.size, h4⟩
    · exact h.elim
  · split at h
    · rename_i p v ch he
      have hu : hget H H.length = .unborn := hget_len H
      obtain ⟨c, w', φ', hg, hv, hH, hs, hk⟩ := evop_sound hE (evop_more hm he) h.1 hu hst.heap hst.tmps
      have hn : ∃ r H1 φ' S', K (tput n T o.dst r) H1 ∧ Stands C n (tput n T'' o.dst r) H1 φ' S' (a.put o.dst c) w' ∧ StepM m φ S H w φ' S' H1 w' ∧ Kp C w w' := ⟨v, _, φ', S, h.2, hst.put (o := o) hH hs hv, hs.toM hk.size, hk⟩
      unfold Oper.wp
      rcases hg with hg | ⟨hg, rfl⟩ <;> rw [hg] <;> exact hn
    · exact h.elim

theorem Stands.buryAll {H2 : Heap} (h : ∀ id, hget H2 id = hget H id ∨ (hget H id = .unborn ∧ hget H2 id = .dead)) (hst : Stands C n T H φ S a w) : Stands C n T H2 φ S a w ∧ Step φ S H w φ S H2 w := by
  have hs : Step φ S H w φ S H2 w := ⟨.refl _ _, fun id hu => by
    rcases h id with e | ⟨e, _⟩
    · rw [e]; exact (Step.refl (φ := φ) (S := S) (H := H) (w := w)).keepH id hu
    · exact absurd e hu⟩
  refine ⟨⟨⟨hst.heap.n0, hst.heap.own, hst.heap.vis, hst.heap.inj, fun id => ?_, hst.heap.low⟩, hst.tmps.step hs, hst.size, hst.defers⟩, hs⟩
  rcases h id with e | ⟨e1, e2⟩
  · rw [e]; exact (hst.heap.blk id).keep hs rfl (fun _ _ => ⟨rfl, Iff.rfl⟩)
  · have := hst.heap.blk id
    rw [e1] at this
    rw [e2]; exact this

end
end Go.Proofs.Ytaejlmengfahnaa.AM

set_option linter.all false
namespace Go.Proofs.Ytaejlmengfahnaa.AM
open Go Go.RowKit

section
variable {P : Program} {E : Env} {n m : Nat} {all : Array Oper} {plan : List PE} {s L0 : Nat} {Q : Tmps → Heap → Prop}

def Stop (P : Program) (E : Env) (n : Nat) (all : Array Oper) (plan : List PE) (Q : Tmps → Heap → Prop) (e : Nat) (T0 : Tmps) (H0 : Heap) : Prop :=
  (e = all.size ∧ ∃ T H, (∀ t, tget T t = tget T0 t) ∧ (∀ id, hget H id = hget H0 id) ∧ Q T H) ∨
  (∃ o pe, all[e]? = some o ∧ plan[e]? = some pe ∧ pe.bar = true ∧ o.guard = none ∧ ∃ T H, (∀ t, tget T t = tget T0 t) ∧ (∀ id, hget H id = hget H0 id) ∧
    bstep P E n o pe.ms T H fun T' H' => drun P E n all.toList (e + 1) H'.length (e + 1) (all.toList.drop (e + 1)) (plan.drop (e + 1)) T' H' Q)

def OpFact (P : Program) (n m : Nat) (all : Array Oper) (s L0 : Nat) (j : Nat) (pe : PE) (T : Tmps) (H : Heap) (r : V × Blk) : Prop :=
  ∀ (T' : Tmps) (H' : Heap) (C : Ctx) (φ : Nat → Option Loc) (S : Nat → Prop) (a : Act) (w : World) (Q' : Exit → Act → World → Prop), Stands C n T' H' φ S a w → (∀ t, t ∉ pe.ms → tget T' t = tget T t) →
    (∀ id, hget (maskH s L0 pe.mi H) id = .unborn ∨ hget H' id = hget (maskH s L0 pe.mi H) id) → hget H' (L0 + (j - s)) = .unborn →
    wpOp P all Q' j (Done C n m φ S H' w (tput n T' (dstAt all j) r.1) (hput H' (L0 + (j - s)) r.2)) a w

def LagFact (P : Program) (n m : Nat) (all : Array Oper) (j : Nat) (pe : PE) (T : Tmps) (v : V) : Prop :=
  ∀ (T' : Tmps) (H' : Heap) (C : Ctx) (φ : Nat → Option Loc) (S : Nat → Prop) (a : Act) (w : World) (Q' : Exit → Act → World → Prop), Stands C n T' H' φ S a w → (∀ t, t ∉ pe.ms → tget T' t = tget T t) →
    wpOp P all Q' j (Done C n m φ S H' w (tput n T' (dstAt all j) v) H') a w

theorem maskH_congr {H H0 : Heap} {mi : List Nat} (h : ∀ id, hget H id = hget H0 id) (id : Nat) : hget (maskH s L0 mi H) id = hget (maskH s L0 mi H0) id := by
  rw [maskH_get, maskH_get, h]

theorem extract (hE : EOk P E) (hp : planOk all.toList plan = true) : ∀ (rest : List Oper) (i : Nat) (T : Tmps) (H : Heap) (T0 : Tmps) (H0 : Heap), rest = all.toList.drop i → i + rest.length = all.size → s ≤ i → (∀ t, tget T t = tget T0 t) → (∀ id, hget H id = hget H0 id) →
    drun P E n all.toList s L0 i rest (plan.drop i) T H Q →
    ∃ (e : Nat) (R : Nat → V × Blk), i ≤ e ∧ e ≤ all.size ∧ (∀ (j : Nat) (pe : PE), i ≤ j → j < e → plan[j]? = some pe → pe.bar = false ∧ OpFact P n m all s L0 j pe (gT n all R (fun _ => true) (j - i) i T0) (gH s L0 R (fun _ => true) (j - i) i H0) (R j) ∧ (pe.lag = true → (R j).2 = .dead ∧ LagFact P n m all j pe (gT n all R (fun _ => true) (j - i) i T0) (R j).1)) ∧
      Stop P E n all plan Q e (gT n all R (fun _ => true) (e - i) i T0) (gH s L0 R (fun _ => true) (e - i) i H0)
  | [], i, T, H, T0, H0, hr, hl, hs, hT, hH, h => by
    refine ⟨i, fun _ => (.d .undef, .dead), Nat.le_refl _, by simp at hl; omega, fun j pe h1 h2 => by omega, .inl ⟨by simpa using hl, T, H, ?_, ?_, ?_⟩⟩
    · simpa [gT] using hT
    · simpa [gH] using hH
    · cases hp : plan.drop i <;> rw [hp] at h <;> exact h
  | o :: rest, i, T, H, T0, H0, hr, hl, hs, hT, hH, h => by
    have ho : all[i]? = some o := by
      have : (all.toList.drop i)[0]? = some o := by rw [← hr]; rfl
      simpa using this
    have hrest : rest = all.toList.drop (i + 1) := by
      have := congrArg List.tail hr
      simpa [List.tail_drop] using this
    cases hpl : plan.drop i with
    | nil => rw [hpl] at h; exact h.elim
    | cons pe pr =>
      have hpe : plan[i]? = some pe := by
        have : (plan.drop i)[0]? = some pe := by rw [hpl]; rfl
        simpa using this
      have hpr : pr = plan.drop (i + 1) := by
        have := congrArg List.tail hpl
        simpa [List.tail_drop] using this.symm
      rw [hpl] at h
      simp only [drun] at h
      split at h
      · -- a barrier
        rename_i hb
        refine ⟨i, fun _ => (.d .undef, .dead), Nat.le_refl _, by simp at hl; omega, fun j pe h1 h2 => by omega, .inr ⟨o, pe, ho, hpe, hb, h.1, T, H, ?_, ?_, ?_⟩⟩
        · simpa [gT] using hT
        · simpa [gH] using hH
        · have := h.2
          rw [hrest, hpr] at this
          exact this
      · rename_i hb
        have hb' : pe.bar = false := by simpa using hb
        -- what follows, once one of them is told
        have go : ∀ (r : V × Blk) (T1 : Tmps) (H1 : Heap), OpFact P n m all s L0 i pe T0 H0 r → (pe.lag = true → r.2 = .dead ∧ LagFact P n m all i pe T0 r.1) → (∀ t, tget T1 t = tget (tput n T0 (dstAt all i) r.1) t) → (∀ id, hget H1 id = hget (hput H0 (L0 + (i - s)) r.2) id) →
            drun P E n all.toList s L0 (i + 1) rest (plan.drop (i + 1)) T1 H1 Q →
            ∃ (e : Nat) (R : Nat → V × Blk), i ≤ e ∧ e ≤ all.size ∧ (∀ (j : Nat) (pe : PE), i ≤ j → j < e → plan[j]? = some pe → pe.bar = false ∧ OpFact P n m all s L0 j pe (gT n all R (fun _ => true) (j - i) i T0) (gH s L0 R (fun _ => true) (j - i) i H0) (R j) ∧ (pe.lag = true → (R j).2 = .dead ∧ LagFact P n m all j pe (gT n all R (fun _ => true) (j - i) i T0) (R j).1)) ∧
              Stop P E n all plan Q e (gT n all R (fun _ => true) (e - i) i T0) (gH s L0 R (fun _ => true) (e - i) i H0) := by
          intro r T1 H1 hf hlf hT1 hH1 h1
          obtain ⟨e, R, g1, g2, g3, g4⟩ := extract hE hp rest (i + 1) T1 H1 (tput n T0 (dstAt all i) r.1) (hput H0 (L0 + (i - s)) r.2) hrest (by simp at hl; omega) (by omega) hT1 hH1 h1
          let R' : Nat → V × Blk := fun j => if j = i then r else R j
          have hR'i : R' i = r := by simp [R']
          have eT : ∀ k, gT n all R' (fun _ => true) (k + 1) i T0 = gT n all R (fun _ => true) k (i + 1) (tput n T0 (dstAt all i) r.1) := fun k => by
            simp only [gT, if_true, hR'i]
            exact gT_congrR k (i + 1) _ (fun j h1 h2 => by simp only [R']; rw [if_neg (by omega)])
          have eH : ∀ k, gH s L0 R' (fun _ => true) (k + 1) i H0 = gH s L0 R (fun _ => true) k (i + 1) (hput H0 (L0 + (i - s)) r.2) := fun k => by
            simp only [gH, if_true, hR'i]
            exact gH_congrR k (i + 1) _ (fun j h1 h2 => by simp only [R']; rw [if_neg (by omega)])
          refine ⟨e, R', by omega, g2, fun j pj hj1 hj2 hpj => ?_, ?_⟩
          · by_cases e0 : j = i
            · subst e0
              rw [hpe] at hpj; cases hpj
              refine ⟨hb', ?_⟩
              rw [hR'i, Nat.sub_self]
              exact ⟨hf, hlf⟩
            · obtain ⟨k, hk⟩ : ∃ k, j - i = k + 1 := ⟨j - i - 1, by omega⟩
              have hk' : j - (i + 1) = k := by omega
              obtain ⟨q1, q2⟩ := g3 j pj (by omega) hj2 hpj
              refine ⟨q1, ?_⟩
              rw [hk, eT, eH]
              rw [hk'] at q2
              have : R' j = R j := by simp only [R']; rw [if_neg e0]
              rw [this]; exact q2
          · obtain ⟨k, hk⟩ : ∃ k, e - i = k + 1 := ⟨e - i - 1, by omega⟩
            have hk' : e - (i + 1) = k := by omega
            rw [hk, eT, eH]
            rw [hk'] at g4
            exact g4
        have hdst : dstAt all i = o.dst := by simp [dstAt, ho]
        -- how an operation that is told is met
        have fact : ∀ {v : V} {b : Blk} {T2 : Tmps}, (∀ t, tget T2 t = tget T t) → (∀ {T' : Tmps} {H' : Heap} {C : Ctx} {φ : Nat → Option Loc} {S : Nat → Prop} {a : Act} {w : World} (Q' : Exit → Act → World → Prop), Stands C n T' H' φ S a w → More (maskT pe.ms T2) (maskH s L0 pe.mi H) T' H' → hget H' (L0 + (i - s)) = .unborn →
            o.wp P a w (Done C n m φ S H' w (tput n T' o.dst v) (hput H' (L0 + (i - s)) b)) Q') →
            (∀ {T' : Tmps} {a : Act}, (∀ t, t ∉ pe.ms → tget T' t = tget T0 t) → (∀ t, ∃ φ S H w, RV φ S H w (tget T' t) (a.tmps.getD t undef)) → Region.wanted o (yielded all a.tmps) = true) → OpFact P n m all s L0 i pe T0 H0 (v, b) := by
          intro v b T2 hT2 hw hwant T' H' C φ S a w Q' hst h1 h2 h3
          unfold wpOp
          rw [ho, hdst]
          simp only
          rw [if_pos (hwant h1 (fun t => ⟨φ, S, H', w, hst.tmps t⟩))]
          refine .inl (hw Q' hst ⟨fun t => ?_, fun id => ?_⟩ h3)
          · rw [maskT_get]
            by_cases ht : t ∈ pe.ms
            · rw [if_pos ht]; exact .inl rfl
            · rw [if_neg ht, hT2, hT]; exact .inr (h1 t ht)
          · rw [maskH_congr hH]; exact h2 id
        split at h
        · -- no guard
          rename_i hg
          obtain ⟨v, b, hK, hw, hlw⟩ := dstep_sound (m := m) hE h
          refine go (v, b) _ _ (fact (T2 := T) (fun _ => rfl) (fun Q' h1 h2 h3 => hw Q' h1 ⟨h2.1, fun id => by
            split
            · exact .inl rfl
            · exact h2.2 id⟩ h3) (fun _ _ => by simp [Region.wanted, hg])) (fun hlag => ?_) (fun t => ?_) (fun id => ?_) (by rw [hpr] at hK; exact hK)
          · obtain ⟨hb, hw2⟩ := hlw ((plan_at hp ho hpe).2.2.2 hlag).1 (if_pos hlag)
            refine ⟨hb, fun T' H' C φ S a w Q' hst hT' => ?_⟩
            unfold wpOp
            rw [ho, hdst]
            simp only
            rw [if_pos (by simp [Region.wanted, hg])]
            refine .inl (hw2 Q' hst fun t => ?_)
            rw [maskT_get]
            by_cases ht : t ∈ pe.ms
            · rw [if_pos ht]; exact .inl rfl
            · rw [if_neg ht, hT]; exact .inr (hT' t ht)
          · rw [hdst]; exact tget_tput_congr hT t
          · rw [hget_hput, hget_hput, hH]
        · rename_i jg want hg
          have hnolag : pe.lag = true → ∀ {X : Prop}, X := fun hl => by
            have := ((plan_at hp ho hpe).2.2.2 hl).1
            simp [pureOp, hg] at this
          split at h
          · rename_i t ht
            split at h
            · rename_i b0 hb0
              rw [maskT_get] at hb0
              have htm : t ∉ pe.ms := fun hm => by rw [if_pos hm] at hb0; cases hb0
              rw [if_neg htm] at hb0
              have hyield : ∀ {T' : Tmps} {a : Act}, (∀ t, t ∉ pe.ms → tget T' t = tget T0 t) → (∀ t, ∃ φ S H w, RV φ S H w (tget T' t) (a.tmps.getD t undef)) → yielded all a.tmps jg = some b0 := by
                intro T' a h1 h2
                obtain ⟨φ, S, H', w, hv⟩ := h2 t
                have e0 : tget T' t = .d (.bool b0) := by rw [h1 t htm, ← hT]; exact hb0
                rw [e0] at hv
                have e := hv.bool_inv
                unfold guardOf at ht
                split at ht
                · rename_i og hog
                  have hog' : all[jg]? = some og := by simpa using hog
                  have hlt : t < a.tmps.size := by
                    rcases Nat.lt_or_ge t a.tmps.size with h | h
                    · exact h
                    · simp [Nat.not_lt.2 h, undef] at e
                  simp [hlt] at e
                  simp [yielded, hog', ht, hlt, e]
                · cases ht
              split at h
              · rename_i hbw
                subst hbw
                have hTt : ∀ u, tget ((t, V.d (.bool b0)) :: T) u = tget T u := fun u => by
                  simp only [tget]; split
                  · rename_i e; rw [e]; exact hb0.symm
                  · rfl
                obtain ⟨v, b, hK, hw, _⟩ := dstep_sound (m := m) hE h
                refine go (v, b) _ _ (fact hTt hw (fun h1 h2 => by simp [Region.wanted, hg, hyield h1 h2])) (fun hl => hnolag hl) (fun u => ?_) (fun id => ?_) (by rw [hpr] at hK; exact hK)
                · rw [hdst]; exact tget_tput_congr (fun u => (hTt u).trans (hT u)) u
                · rw [hget_hput, hget_hput, hH]
              · rename_i hbw
                have hbn : b0 = !want := by cases b0 <;> cases want <;> simp_all
                have hTt : ∀ u, tget ((t, V.d (.bool !want)) :: T) u = tget T u := fun u => by
                  simp only [tget]; split
                  · rename_i e; rw [e, hb0, hbn]
                  · rfl
                refine go (.d (.tuple []), .dead) _ _ ?_ (fun hl => hnolag hl) (fun u => ?_) (fun id => ?_) (by rw [hpr] at h; exact h)
                · intro T' H' C φ S a w Q' hst h1 h2 h3
                  unfold wpOp
                  rw [ho, hdst]
                  have hwn : ¬ Region.wanted o (yielded all a.tmps) = true := by
                    simp [Region.wanted, hg, hyield h1 (fun t => ⟨φ, S, H', w, hst.tmps t⟩)]; exact hbw
                  simp only
                  rw [if_neg hwn]
                  obtain ⟨q1, q2⟩ := (hst.skip o.dst).bury h3
                  exact ⟨φ, S, q1, q2.toM (Nat.le_refl _), .refl⟩
                · rw [hdst]; exact tget_tput_congr (fun u => (hTt u).trans (hT u)) u
                · rw [hget_hput, hget_hput, hH]
            · rename_i hb0
              rw [maskT_get] at hb0
              have htm : t ∉ pe.ms := fun hm => by rw [if_pos hm] at hb0; cases hb0
              rw [if_neg htm] at hb0
              refine go (.d (.tuple []), .dead) _ _ ?_ (fun hl => hnolag hl) (fun u => ?_) (fun id => ?_) (by rw [hpr] at h; exact h)
              · intro T' H' C φ S a w Q' hst h1 h2 h3
                unfold wpOp
                rw [ho, hdst]
                have hv := hst.tmps t
                have e0 : tget T' t = .d (.tuple []) := by rw [h1 t htm, ← hT]; exact hb0
                rw [e0] at hv
                have hwn : ¬ Region.wanted o (yielded all a.tmps) = true := by
                  simp [Region.wanted, hg, yielded_no ht (tuple0_inv hv)]
                simp only
                rw [if_neg hwn]
                obtain ⟨q1, q2⟩ := (hst.skip o.dst).bury h3
                exact ⟨φ, S, q1, q2.toM (Nat.le_refl _), .refl⟩
              · rw [hdst]; exact tget_tput_congr hT u
              · rw [hget_hput, hget_hput, hH]
            · exact h.elim
          · exact h.elim

theorem hget_length (H : Heap) : ∀ (id : Nat), H.length ≤ id → hget H id = .unborn := by
  induction H with
  | nil => intro id _; rfl
  | cons b H ih =>
    intro id h
    cases id with
    | zero => simp at h
    | succ id => exact ih id (by simpa using h)

theorem gT_add {p : Nat → Bool} {R : Nat → V × Blk} : ∀ (k l i : Nat) (T : Tmps), gT n all R p (k + l) i T = gT n all R p l (i + k) (gT n all R p k i T)
  | 0, l, i, T => by simp [gT]
  | k + 1, l, i, T => by
    rw [show k + 1 + l = (k + l) + 1 by omega]
    simp only [gT]
    rw [gT_add k l (i + 1)]
    congr 1; omega

theorem gT_big {p : Nat → Bool} {R : Nat → V × Blk} {t : Nat} (ht : n ≤ t) : ∀ (k i : Nat) (T : Tmps), tget (gT n all R p k i T) t = tget T t
  | 0, _, _ => rfl
  | k + 1, i, T => by
    simp only [gT]
    rw [gT_big ht k (i + 1)]
    split
    · cases hd : dstAt all i with
      | none => rfl
      | some d =>
        simp only [tput]
        split
        · rename_i h; simp only [tget]; rw [if_neg (by omega)]
        · rfl
    · rfl

def Xd (n : Nat) (all : Array Oper) (X : List Nat) : List Nat := X.filterMap fun x => match dstAt all x with
  | some t => if t < n then some t else none
  | none => none

theorem mem_Xd {X : List Nat} {t : Nat} : t ∈ Xd n all X ↔ ∃ x ∈ X, dstAt all x = some t ∧ t < n := by
  unfold Xd
  rw [List.mem_filterMap]
  constructor
  · rintro ⟨x, hx, h⟩
    refine ⟨x, hx, ?_⟩
    split at h
    · rename_i t' ht
      split at h
      · rename_i hn; simp at h; subst h; exact ⟨ht, hn⟩
      · cases h
    · cases h
  · rintro ⟨x, hx, h1, h2⟩
    exact ⟨x, hx, by rw [h1]; simp [h2]⟩

def XInv (P : Program) (n m : Nat) (all : Array Oper) (plan : List PE) (listed : Array Bool) (s : Nat) (T0 : Tmps) (X : List Nat) (vx : Nat → V) : Prop :=
  ∀ x ∈ X, x < s ∧ listed.getD x false = false ∧ ∃ o pe Tx, all[x]? = some o ∧ plan[x]? = some pe ∧ pe.lag = true ∧ LagFact P n m all x pe Tx (vx x) ∧ (∀ t, t ∉ pe.ms → tget T0 t = tget Tx t) ∧
    (∀ t, dstAt all x = some t → t < n → tget T0 t = vx x)

theorem any_sound (hE : EOk P E) (hp : planOk all.toList plan = true) {Q' : Exit → Act → World → Prop} {C : Ctx} {φ0 : Nat → Option Loc} {S0 : Nat → Prop} {H00 : Heap} {w0 : World}
    (hQ' : ∀ (T : Tmps) (H : Heap) (φ : Nat → Option Loc) (S : Nat → Prop) (a : Act) (w : World), Q T H → Stands C n T H φ S a w → StepM m φ0 S0 H00 w0 φ S H w → Kp C w0 w → Q' .normal a w) :
    ∀ (fuel : Nat) (U : List Nat) (s e : Nat) (T0 : Tmps) (H0 : Heap) (R : Nat → V × Blk) (X : List Nat) (vx : Nat → V) (listed : Array Bool) (a : Act) (w : World) (φ : Nat → Option Loc) (S : Nat → Prop), U.length ≤ fuel → (∀ j, j < all.size → listed.getD j false = false → j ∈ U) →
      listed.size = all.size → Closed all listed → s ≤ e → e ≤ all.size →
      (∀ (j : Nat) (pe : PE), s ≤ j → j < e → plan[j]? = some pe → pe.bar = false ∧ OpFact P n m all s H0.length j pe (gT n all R (fun _ => true) (j - s) s T0) (gH s H0.length R (fun _ => true) (j - s) s H0) (R j) ∧
        (pe.lag = true → (R j).2 = .dead ∧ LagFact P n m all j pe (gT n all R (fun _ => true) (j - s) s T0) (R j).1)) →
      Stop P E n all plan Q e (gT n all R (fun _ => true) (e - s) s T0) (gH s H0.length R (fun _ => true) (e - s) s H0) →
      (∀ j, j < s → listed.getD j false = true ∨ j ∈ X) → XInv P n m all plan listed s T0 X vx → (∀ j, e ≤ j → j < all.size → listed.getD j false = false) →
      Stands C n (gT n all R (fun j => listed.getD j false) (e - s) s (maskT (Xd n all X) T0)) (gH s H0.length R (fun j => listed.getD j false) (e - s) s H0) φ S a w →
      StepM m φ0 S0 H00 w0 φ S (gH s H0.length R (fun j => listed.getD j false) (e - s) s H0) w → Kp C w0 w → wpAny P .any all Q' fuel listed a w := by
  -- all are listed
  have fin : ∀ (s e : Nat) (T0 : Tmps) (H0 : Heap) (R : Nat → V × Blk) (X : List Nat) (vx : Nat → V) (listed : Array Bool) (a : Act) (w : World) (φ : Nat → Option Loc) (S : Nat → Prop), (∀ j, j < all.size → listed.getD j false = true) → s ≤ e → e ≤ all.size →
      Stop P E n all plan Q e (gT n all R (fun _ => true) (e - s) s T0) (gH s H0.length R (fun _ => true) (e - s) s H0) → XInv P n m all plan listed s T0 X vx → (∀ j, e ≤ j → j < all.size → listed.getD j false = false) →
      Stands C n (gT n all R (fun j => listed.getD j false) (e - s) s (maskT (Xd n all X) T0)) (gH s H0.length R (fun j => listed.getD j false) (e - s) s H0) φ S a w →
      StepM m φ0 S0 H00 w0 φ S (gH s H0.length R (fun j => listed.getD j false) (e - s) s H0) w → Kp C w0 w → Q' .normal a w := by
    intro s e T0 H0 R X vx listed a w φ S hall hse hes hstop hX hl2 hst hsm hk
    have hX0 : X = [] := List.eq_nil_iff_forall_not_mem.2 (fun x hx => by
      obtain ⟨_, h1, o, _, _, ho, _⟩ := hX x hx
      rw [hall x (Array.getElem?_eq_some_iff.1 ho).1] at h1; cases h1)
    subst hX0
    have he : e = all.size := by
      rcases Nat.lt_or_ge e all.size with h | h
      · have h1 := hall e h; rw [hl2 e (Nat.le_refl _) h] at h1; cases h1
      · omega
    rcases hstop with ⟨_, T, H, hT, hH, hq⟩ | ⟨o, pe, ho, _⟩
    · have eT : ∀ t, tget T t = tget (gT n all R (fun j => listed.getD j false) (e - s) s (maskT (Xd n all []) T0)) t := fun t => by
        rw [hT]
        exact gT_same _ _ _ _ (fun j h1 h2 _ => (hall j (by omega)).symm) rfl
      have eH : ∀ id, hget H id = hget (gH s H0.length R (fun j => listed.getD j false) (e - s) s H0) id := fun id => by
        rw [hH, gH_get _ _ _ _ (Nat.le_refl _), gH_get _ _ _ _ (Nat.le_refl _)]
        by_cases h : H0.length + (s - s) ≤ id ∧ id < H0.length + (s - s) + (e - s)
        · rw [if_pos ⟨h.1, h.2, rfl⟩, if_pos ⟨h.1, h.2, hall _ (by omega)⟩]
        · rw [if_neg (fun g => h ⟨g.1, g.2.1⟩), if_neg (fun g => h ⟨g.1, g.2.1⟩)]
      exact hQ' T H φ S a w hq (hst.congr eT eH) (hsm.congr eH) hk
    · have := (Array.getElem?_eq_some_iff.1 ho).1; omega
  intro fuel
  induction fuel with
  | zero =>
    intro U s e T0 H0 R X vx listed a w φ S hU hUl hsz hc hse hes hf hstop hl1 hX hl2 hst hsm hk
    have hU0 : U = [] := List.eq_nil_of_length_eq_zero (by omega)
    have hall : ∀ j, j < all.size → listed.getD j false = true := fun j hj => by
      cases h : listed.getD j false with
      | true => rfl
      | false => have := hUl j hj h; rw [hU0] at this; simp at this
    refine ⟨?_, fin s e T0 H0 R X vx listed a w φ S hall hse hes hstop hX hl2 hst hsm hk⟩
    refine List.eq_nil_iff_forall_not_mem.2 (fun j hj => ?_)
    obtain ⟨h0, o, ho, _⟩ := ready_deps hj
    have hjs : j < all.size := (Array.getElem?_eq_some_iff.1 ho).1
    have h1 := hall j hjs
    have hjl : j < listed.size := by omega
    simp [hjl] at h0 h1
    rw [h0] at h1; cases h1
  | succ fuel ih =>
    intro U s e T0 H0 R X vx listed a w φ S hU hUl hsz hc hse hes hf hstop hl1 hX hl2 hst hsm hk
    refine ⟨fun hr => fin s e T0 H0 R X vx listed a w φ S (not_ready hsz hp hr) hse hes hstop hX hl2 hst hsm hk, fun j hj => ?_⟩
    obtain ⟨h0, o, ho, hd⟩ := ready_deps hj
    have hjs : j < all.size := (Array.getElem?_eq_some_iff.1 ho).1
    have hjl : j < listed.size := by omega
    have hLj : listed.getD j false = false := by simp [hjl] at h0 ⊢; exact h0
    obtain ⟨pe, hpe⟩ := plan_some hp hjs
    have hclB : ∀ k, k ∈ planB plan j → listed.getD k false = true := fun k hk => closed_B hp hc j k o ho hd hk
    have hpj := plan_at hp ho hpe
    have hinc := hpj.2.2.1
    have hB : ∀ k, k ∈ pe.B → listed.getD k false = true ∧ k < j := fun k hk => by
      have : k ∈ planB plan j := by simp [planB, hpe, hk]
      exact ⟨hclB k this, planB_lt hp j k this hjs⟩
    -- of one that is listed this one does not come ahead
    have hnot : ∀ k, k < all.size → listed.getD k false = true → j ∉ planB plan k := fun k hk hL hjk => by
      have hok : all[k]? = some all[k] := by simp
      have := closed_B hp hc k j all[k] hok (hc k all[k] hL hok) hjk
      rw [hLj] at this; cases this
    have hUj : j ∈ U := hUl j hjs hLj
    have hU' : (U.erase j).length ≤ fuel := by rw [List.length_erase_of_mem hUj]; omega
    have hUl' : ∀ k, k < all.size → (listed.setIfInBounds j true).getD k false = false → k ∈ U.erase j := fun k hk hL => by
      have hne : k ≠ j := fun e => by subst e; simp [hjl] at hL
      rw [getD_set_ne false (Ne.symm hne)] at hL
      exact (List.mem_erase_of_ne hne).2 (hUl k hk hL)
    have hL'ne : ∀ k, k ≠ j → (listed.setIfInBounds j true).getD k false = listed.getD k false := fun k hne => getD_set_ne false (Ne.symm hne)
    have hL'j : (listed.setIfInBounds j true).getD j false = true := by simp [hjl]
    have hdj : dstAt all j = o.dst := by simp [dstAt, ho]
    have hXun : ∀ x ∈ X, listed.getD x false = false := fun x hx => (hX x hx).2.1
    have hXs : ∀ x ∈ X, x < s := fun x hx => (hX x hx).1
    have hXsz : ∀ x ∈ X, x < all.size := fun x hx => by obtain ⟨_, _, o', _, _, ho', _⟩ := hX x hx; exact (Array.getElem?_eq_some_iff.1 ho').1
    rcases Nat.lt_or_ge j s with hsj | hsj
    · -- one that lagged
      have hjX : j ∈ X := (hl1 j hsj).resolve_left (by rw [hLj]; simp)
      obtain ⟨_, _, o', pe', Tx, ho', hpe', hlag, hfact, hTx, hvx⟩ := hX j hjX
      rw [ho] at ho'; cases ho'
      rw [hpe] at hpe'; cases hpe'
      obtain ⟨_, _, hdm, hl4⟩ := hpj.2.2.2 hlag
      -- who writes a slot that is not masked comes ahead
      have hw : ∀ k, k < all.size → k ≠ j → ∀ t, dstAt all k = some t → (listed.getD k false = true ∨ planLag plan k = true) → k ∈ pe.B ∨ (t ∈ pe.ms ∧ o.dst ≠ some t) := fun k hk hne t ht hor => by
        have hok : all[k]? = some all[k] := by simp
        rcases hl4 k all[k] hok with h | h | h | h
        · exact absurd h hne
        · exact .inl h
        · exact .inr (h t (by simpa [dstAt, hok] using ht))
        · rcases hor with g | g
          · exact absurd h.1 (hnot k hk g)
          · rw [h.2] at g; cases g
      have hXlag : ∀ y ∈ X, planLag plan y = true := fun y hy => by
        obtain ⟨_, _, _, py, _, _, hpy, hly, _⟩ := hX y hy
        simp [planLag, hpy, hly]
      have hslots : ∀ t, t ∉ pe.ms → tget (gT n all R (fun j => listed.getD j false) (e - s) s (maskT (Xd n all X) T0)) t = tget Tx t := fun t ht => by
        rw [gT_un _ _ _ (fun l h1 h2 h3 h4 => by
          rcases hw l (by omega) (by omega) t h4 (.inl h3) with h | h
          · have := (hB l h).2; omega
          · exact ht h.1)]
        rw [maskT_get, if_neg (fun hm => by
          obtain ⟨y, hy, hyd, _⟩ := mem_Xd.1 hm
          by_cases e : y = j
          · subst e; rw [hdj] at hyd; exact ht (hdm t hyd)
          · rcases hw y (hXsz y hy) e t hyd (.inr (hXlag y hy)) with h | h
            · have := (hB y h).1; rw [hXun y hy] at this; cases this
            · exact ht h.1)]
        exact hTx t ht
      refine wpOp_mono ?_ (hfact _ _ C φ S a w Q' hst hslots)
      rintro a' w' ⟨φ', S', g1, g2, g3⟩
      have hpred : ∀ l, s ≤ l → l < s + (e - s) → ∀ t, dstAt all l = some t → (listed.setIfInBounds j true).getD l false = listed.getD l false := fun l h1 h2 t _ => hL'ne l (by omega)
      have eT : ∀ t, tget (gT n all R (fun k => (listed.setIfInBounds j true).getD k false) (e - s) s (maskT (Xd n all (X.filter (· ≠ j))) T0)) t = tget (tput n (gT n all R (fun j => listed.getD j false) (e - s) s (maskT (Xd n all X) T0)) (dstAt all j) (vx j)) t := fun t => by
        by_cases hdt : dstAt all j = some t ∧ t < n
        · obtain ⟨hdt, htn⟩ := hdt
          rw [hdt, tget_tput_eq htn]
          have hodt : o.dst = some t := by rw [← hdj]; exact hdt
          rw [gT_un _ _ _ (fun l h1 h2 h3 h4 => by
            rcases hw l (by omega) (by omega) t h4 (.inl (by rw [hL'ne l (by omega)] at h3; exact h3)) with h | h
            · have := (hB l h).2; omega
            · exact h.2 hodt)]
          rw [maskT_get, if_neg (fun hm => by
            obtain ⟨y, hy, hyd, _⟩ := mem_Xd.1 hm
            obtain ⟨hy1, hy2⟩ := List.mem_filter.1 hy
            have hyj : y ≠ j := by simpa using hy2
            rcases hw y (hXsz y hy1) hyj t hyd (.inr (hXlag y hy1)) with h | h
            · have := (hB y h).1; rw [hXun y hy1] at this; cases this
            · exact h.2 hodt)]
          exact hvx t hdt htn
        · have hr : tget (tput n (gT n all R (fun j => listed.getD j false) (e - s) s (maskT (Xd n all X) T0)) (dstAt all j) (vx j)) t = tget (gT n all R (fun j => listed.getD j false) (e - s) s (maskT (Xd n all X) T0)) t := by
            by_cases h1 : dstAt all j = some t
            · have : ¬ t < n := fun h2 => hdt ⟨h1, h2⟩
              rw [h1]; simp only [tput]; rw [if_neg this]
            · exact tget_tput_ne h1
          rw [hr]
          refine gT_same _ _ _ _ (fun l h1 h2 h3 => hpred l h1 h2 t h3) ?_
          rw [maskT_get, maskT_get]
          have : t ∈ Xd n all (X.filter (· ≠ j)) ↔ t ∈ Xd n all X := by
            rw [mem_Xd, mem_Xd]
            constructor
            · rintro ⟨y, hy, hh⟩; exact ⟨y, (List.mem_filter.1 hy).1, hh⟩
            · rintro ⟨y, hy, h1, h2⟩
              exact ⟨y, List.mem_filter.2 ⟨hy, by simp; rintro rfl; exact hdt ⟨h1, h2⟩⟩, h1, h2⟩
          by_cases hm : t ∈ Xd n all X
          · rw [if_pos (this.2 hm), if_pos hm]
          · rw [if_neg (fun h => hm (this.1 h)), if_neg hm]
      have eH : ∀ id, hget (gH s H0.length R (fun k => (listed.setIfInBounds j true).getD k false) (e - s) s H0) id = hget (gH s H0.length R (fun j => listed.getD j false) (e - s) s H0) id := fun id => by
        rw [gH_get _ _ _ _ (Nat.le_refl _), gH_get _ _ _ _ (Nat.le_refl _)]
        by_cases h1 : H0.length ≤ id
        · rw [hL'ne _ (by omega)]
        · rw [if_neg (fun g => h1 (by have := g.1; omega)), if_neg (fun g => h1 (by have := g.1; omega))]
      refine ih (U.erase j) s e T0 H0 R (X.filter (· ≠ j)) vx _ a' w' φ' S' hU' hUl' (by simpa using hsz) (hc.set ho hd) hse hes hf hstop (fun k hk' => ?_) (fun x hx => ?_) (fun k h1 h2 => by rw [hL'ne k (by omega)]; exact hl2 k h1 h2)
        (g1.congr eT eH) ((hsm.trans g2).congr eH) (hk.trans g3)
      · by_cases e : k = j
        · subst e; exact .inl hL'j
        · rcases hl1 k hk' with h | h
          · exact .inl (getD_set_true h)
          · exact .inr (List.mem_filter.2 ⟨h, by simpa using e⟩)
      · obtain ⟨hx1, hx2⟩ := List.mem_filter.1 hx
        have hne : x ≠ j := by simpa using hx2
        obtain ⟨q1, q2, q3⟩ := hX x hx1
        exact ⟨q1, by rw [hL'ne x hne]; exact q2, q3⟩
    obtain hje | hje := Nat.lt_or_ge j e
    · -- one of those that may come in any order
      obtain ⟨hbar, hfact, _⟩ := hf j pe hsj hje hpe
      have hincb : ∀ (k : Nat), k < all.size → k = j ∨ k ∈ pe.B ∨ j ∈ planB plan k ∨ ((j < k ∨ k ∈ pe.mi) ∧ ∀ t, dstAt all k = some t → t ∈ pe.ms ∧ o.dst ≠ some t) := fun k hk => by
        have hok : all[k]? = some all[k] := by simp
        rcases hinc k all[k] hok with h | h | h | h | h
        · exact .inl h
        · exact .inr (.inl h)
        · exact .inr (.inr (.inl h))
        · exact .inr (.inr (.inr ⟨h.2.1, fun t ht => h.2.2 t (by simpa [dstAt, hok] using ht)⟩))
        · rw [hbar] at h; cases h.1
      -- what is told of the others
      have hothers : ∀ (k : Nat), k < all.size → k ≠ j → listed.getD k false = true → ∀ t, dstAt all k = some t → (k < j) ∨ (t ∈ pe.ms ∧ o.dst ≠ some t) := fun k hk hne hL t ht => by
        rcases hincb k hk with h | h | h | h
        · exact absurd h hne
        · exact .inl (hB k h).2
        · exact absurd h (hnot k hk hL)
        · exact .inr (h.2 t ht)
      have hbase : ∀ t, t ∉ pe.ms → tget (maskT (Xd n all X) T0) t = tget T0 t := fun t ht => by
        rw [maskT_get, if_neg (fun hm => by
          obtain ⟨y, hy, hyd, _⟩ := mem_Xd.1 hm
          have hys := hXs y hy
          rcases hincb y (hXsz y hy) with h | h | h | h
          · omega
          · have := (hB y h).1; rw [hXun y hy] at this; cases this
          · have := planB_lt hp y j h (hXsz y hy); omega
          · exact ht (h.2 t hyd).1)]
      have hslots : ∀ t, t ∉ pe.ms → tget (gT n all R (fun j => listed.getD j false) (e - s) s (maskT (Xd n all X) T0)) t = tget (gT n all R (fun _ => true) (j - s) s T0) t := fun t ht => by
        rw [show e - s = (j - s) + (e - j) by omega, gT_add, show s + (j - s) = j by omega]
        rw [gT_un (t := t) (e - j) j _ (fun l h1 h2 h3 h4 => by
          have hne : l ≠ j := fun e => by subst e; have h3' : listed.getD l false = true := h3; rw [hLj] at h3'; cases h3'
          rcases hothers l (by omega) hne h3 t h4 with h | h
          · omega
          · exact ht h.1)]
        refine gT_same _ _ _ _ (fun k h1 h2 h3 => ?_) (hbase t ht)
        have hk : k < all.size := by omega
        rcases hincb k hk with h | h | h | h
        · omega
        · exact (hB k h).1
        · have := planB_lt hp k j h hk; omega
        · exact absurd (h.2 t h3).1 ht
      have hheap : ∀ id, hget (maskH s H0.length pe.mi (gH s H0.length R (fun _ => true) (j - s) s H0)) id = .unborn ∨
          hget (gH s H0.length R (fun j => listed.getD j false) (e - s) s H0) id = hget (maskH s H0.length pe.mi (gH s H0.length R (fun _ => true) (j - s) s H0)) id := fun id => by
        rw [maskH_get]
        split
        · exact .inl rfl
        · rename_i hm
          rw [gH_get _ _ _ _ (Nat.le_refl _), gH_get _ _ _ _ (Nat.le_refl _)]
          by_cases h1 : H0.length ≤ id
          · by_cases h2 : id < H0.length + (j - s)
            · rw [if_pos ⟨by omega, by omega, rfl⟩]
              right
              have hk : s + (id - H0.length) < all.size := by omega
              have hLk : listed.getD (s + (id - H0.length)) false = true := by
                rcases hincb _ hk with h | h | h | h
                · omega
                · exact (hB _ h).1
                · have := planB_lt hp _ j h hk; omega
                · rcases h.1 with h3 | h3
                  · omega
                  · exact absurd ⟨_, h3, by omega, by omega⟩ hm
              have c : H0.length + (s - s) ≤ id ∧ id < H0.length + (s - s) + (e - s) := ⟨by omega, by omega⟩
              rw [if_pos ⟨c.1, c.2, hLk⟩]
            · rw [if_neg (fun g => h2 (by have := g.2.1; omega))]
              exact .inl (hget_length H0 id h1)
          · rw [if_neg (fun g => h1 (by have := g.1; omega)), if_neg (fun g => h1 (by have := g.1; omega))]
            exact .inr rfl
      have hnid : hget (gH s H0.length R (fun j => listed.getD j false) (e - s) s H0) (H0.length + (j - s)) = .unborn := by
        rw [gH_get _ _ _ _ (Nat.le_refl _)]
        have ej : s + (H0.length + (j - s) - H0.length) = j := by omega
        rw [ej, if_neg (fun g => by rw [hLj] at g; cases g.2.2)]
        exact hget_length H0 _ (by omega)
      refine wpOp_mono ?_ (hfact _ _ C φ S a w Q' hst hslots hheap hnid)
      rintro a' w' ⟨φ', S', g1, g2, g3⟩
      have eT : ∀ t, tget (gT n all R (fun k => (listed.setIfInBounds j true).getD k false) (e - s) s (maskT (Xd n all X) T0)) t = tget (tput n (gT n all R (fun j => listed.getD j false) (e - s) s (maskT (Xd n all X) T0)) (dstAt all j) (R j).1) t := fun t => by
        by_cases hdt : dstAt all j = some t
        · by_cases htn : t < n
          · rw [gT_last hdt htn hL'j (e - s) s _ hsj (by omega) (fun l h1 h2 h3 h4 => by
              have h3' : (listed.setIfInBounds j true).getD l false = true := h3
              rw [hL'ne l (by omega)] at h3'
              rcases hothers l (by omega) (by omega) h3' t h4 with h | h
              · omega
              · exact h.2 (by rw [← hdj]; exact hdt)), hdt, tget_tput_eq htn]
          · rw [gT_big (by omega), hdt]
            simp only [tput]
            rw [if_neg htn, gT_big (by omega)]
        · rw [tget_tput_ne hdt]
          refine gT_same _ _ _ _ (fun k h1 h2 h3 => ?_) rfl
          exact hL'ne k (fun e => hdt (e ▸ h3))
      have eH : ∀ id, hget (gH s H0.length R (fun k => (listed.setIfInBounds j true).getD k false) (e - s) s H0) id = hget (hput (gH s H0.length R (fun j => listed.getD j false) (e - s) s H0) (H0.length + (j - s)) (R j).2) id := fun id => by
        rw [hget_hput, gH_get _ _ _ _ (Nat.le_refl _), gH_get _ _ _ _ (Nat.le_refl _)]
        by_cases hid : id = H0.length + (j - s)
        · subst hid
          have ej : s + (H0.length + (j - s) - H0.length) = j := by omega
          rw [if_pos rfl, ej, if_pos ⟨by omega, by omega, hL'j⟩]
        · rw [if_neg hid]
          by_cases h1 : H0.length ≤ id
          · rw [hL'ne _ (by omega)]
          · rw [if_neg (fun g => h1 (by have := g.1; omega)), if_neg (fun g => h1 (by have := g.1; omega))]
      refine ih (U.erase j) s e T0 H0 R X vx _ a' w' φ' S' hU' hUl' (by simpa using hsz) (hc.set ho hd) hse hes hf hstop (fun k hk' => (hl1 k hk').imp getD_set_true id) (fun x hx => ?_) (fun k h1 h2 => by rw [hL'ne k (by omega)]; exact hl2 k h1 h2)
        (g1.congr eT eH) ((hsm.trans g2).congr eH) (hk.trans g3)
      obtain ⟨q1, q2, q3⟩ := hX x hx
      exact ⟨q1, by rw [hL'ne x (by omega)]; exact q2, q3⟩
    · -- a barrier
      have hes' : e < all.size := by omega
      rcases hstop with ⟨he, _⟩ | ⟨oe, pee, hoe, hpee, hbar, hgu, T, H, hT, hH, hstep⟩
      · omega
      have hince := (plan_at hp hoe hpee).2.2.1
      have hje' : j = e := by
        rcases hince j o ho with h | h | h | h | h
        · exact h
        · have : j ∈ planB plan e := by simp [planB, hpee, h]
          have := planB_lt hp e j this hes'; omega
        · have := hclB e h
          rw [hl2 e (Nat.le_refl _) hes'] at this; cases this
        · rw [hbar] at h; cases h.1
        · omega
      subst hje'
      rw [ho] at hoe; cases hoe
      rw [hpe] at hpee; cases hpee
      -- who is not listed lags
      have hlagk : ∀ k, k < j → listed.getD k false = false → planLag plan k = true ∧ ∀ t, dstAt all k = some t → t ∈ pe.ms ∧ o.dst ≠ some t := fun k hkj hL => by
        have hk : k < all.size := by omega
        have hok : all[k]? = some all[k] := by simp
        rcases hince k all[k] hok with h | h | h | h | h
        · omega
        · have := (hB k h).1; rw [hL] at this; cases this
        · have := planB_lt hp k j h hk; omega
        · rw [hbar] at h; cases h.1
        · exact ⟨h.2.2.1, fun t ht => h.2.2.2 t (by simpa [dstAt, hok] using ht)⟩
      have hlagpe : ∀ k, planLag plan k = true → ∃ pk, plan[k]? = some pk ∧ pk.lag = true := fun k h => by
        unfold planLag at h
        cases hk : plan[k]? with
        | none => rw [hk] at h; cases h
        | some pk => rw [hk] at h; exact ⟨pk, rfl, h⟩
      -- the slots
      have hreal : ∀ t, t ∉ pe.ms → tget (gT n all R (fun j => listed.getD j false) (j - s) s (maskT (Xd n all X) T0)) t = tget T t := fun t ht => by
        rw [hT]
        refine gT_same _ _ _ _ (fun k h1 h2 h3 => ?_) ?_
        · cases hL : listed.getD k false with
          | true => rfl
          | false => exact absurd ((hlagk k (by omega) hL).2 t h3).1 ht
        · rw [maskT_get, if_neg (fun hm => by
            obtain ⟨y, hy, hyd, _⟩ := mem_Xd.1 hm
            have hys := hXs y hy
            exact ht ((hlagk y (by omega) (hXun y hy)).2 t hyd).1)]
      -- the heap
      have hbury : ∀ id, hget H id = hget (gH s H0.length R (fun j => listed.getD j false) (j - s) s H0) id ∨ (hget (gH s H0.length R (fun j => listed.getD j false) (j - s) s H0) id = .unborn ∧ hget H id = .dead) := fun id => by
        rw [hH, gH_get _ _ _ _ (Nat.le_refl _), gH_get _ _ _ _ (Nat.le_refl _)]
        by_cases h : H0.length + (s - s) ≤ id ∧ id < H0.length + (s - s) + (j - s)
        · rw [if_pos ⟨h.1, h.2, rfl⟩]
          cases hL : listed.getD (s + (id - H0.length)) false with
          | true => rw [if_pos ⟨h.1, h.2, rfl⟩]; exact .inl rfl
          | false =>
            rw [if_neg (fun g => by cases g.2.2)]
            right
            obtain ⟨pk, hpk, hlk⟩ := hlagpe _ (hlagk (s + (id - H0.length)) (by omega) hL).1
            exact ⟨hget_length H0 id (by omega), ((hf _ pk (by omega) (by omega) hpk).2.2 hlk).1⟩
        · rw [if_neg (fun g => h ⟨g.1, g.2.1⟩), if_neg (fun g => h ⟨g.1, g.2.1⟩)]; exact .inl rfl
      obtain ⟨hst', hs'⟩ := hst.buryAll hbury
      have hsm' : StepM m φ0 S0 H00 w0 φ S H w := hsm.trans (hs'.toM (Nat.le_refl _))
      unfold wpOp
      rw [ho]
      simp only
      rw [if_pos (by simp [Region.wanted, hgu])]
      refine .inl (Oper.wp_mono ?_ (bstep_sound (m := m) (Q := Q') hE hst' hreal hstep))
      rintro a' w' ⟨r, H1, φ1, S1, hdr, g1, g2, g3⟩
      obtain ⟨e', R', q1, q2, q3, q4⟩ := extract (m := m) hE hp (all.toList.drop (j + 1)) (j + 1) (tput n T o.dst r) H1 (tput n T o.dst r) H1 rfl (by simp; omega) (Nat.le_refl _) (fun _ => rfl) (fun _ => rfl) hdr
      have hL'f : ∀ k, j + 1 ≤ k → k < all.size → (listed.setIfInBounds j true).getD k false = false := fun k h1 h2 => by rw [hL'ne k (by omega)]; exact hl2 k (by omega) h2
      -- who lags now
      let X' : List Nat := X ++ (List.range j).filter fun k => decide (s ≤ k) && !listed.getD k false
      have memX' : ∀ k, k ∈ X' ↔ k ∈ X ∨ (s ≤ k ∧ k < j ∧ listed.getD k false = false) := fun k => by
        simp only [X', List.mem_append, List.mem_filter, List.mem_range, Bool.and_eq_true, decide_eq_true_eq, Bool.not_eq_true']
        constructor
        · rintro (h | ⟨h1, h2, h3⟩)
          · exact .inl h
          · exact .inr ⟨h2, h1, h3⟩
        · rintro (h | ⟨h1, h2, h3⟩)
          · exact .inl h
          · exact .inr ⟨h2, h1, h3⟩
      have hX'un : ∀ x ∈ X', x < j ∧ listed.getD x false = false := fun x hx => by
        rcases (memX' x).1 hx with h | h
        · have := hXs x h; exact ⟨by omega, hXun x h⟩
        · exact ⟨h.2.1, h.2.2⟩
      have eT1 : ∀ t, tget (gT n all R' (fun k => (listed.setIfInBounds j true).getD k false) (e' - (j + 1)) (j + 1) (maskT (Xd n all X') (tput n T o.dst r))) t = tget (maskT (Xd n all X') (tput n (gT n all R (fun j => listed.getD j false) (j - s) s (maskT (Xd n all X) T0)) o.dst r)) t := fun t => by
        rw [gT_un _ _ _ (fun k h1 h2 h3 => by
          have h3' : (listed.setIfInBounds j true).getD k false = true := h3
          rw [hL'f k h1 (by omega)] at h3'; cases h3')]
        rw [maskT_get, maskT_get]
        by_cases hm : t ∈ Xd n all X'
        · rw [if_pos hm, if_pos hm]
        · rw [if_neg hm, if_neg hm]
          by_cases htn : t < n
          · refine tget_tput_cong1 ?_
            -- not the slot of one that lags
            rw [hT]
            symm
            refine gT_same _ _ _ _ (fun k h1 h2 h3 => ?_) ?_
            · cases hL : listed.getD k false with
              | true => rfl
              | false => exact absurd (mem_Xd.2 ⟨k, (memX' k).2 (.inr ⟨by omega, by omega, hL⟩), h3, htn⟩) hm
            · rw [maskT_get, if_neg (fun hm' => by
                obtain ⟨y, hy, hyd⟩ := mem_Xd.1 hm'
                exact hm (mem_Xd.2 ⟨y, (memX' y).2 (.inl hy), hyd⟩))]
          · have hb1 : ∀ (TT : Tmps), tget (tput n TT o.dst r) t = tget TT t := fun TT => by
              cases ho' : o.dst with
              | none => rfl
              | some d =>
                simp only [tput]
                split
                · rename_i hdn
                  simp only [tget]
                  rw [if_neg (by omega)]
                · rfl
            rw [hb1, hb1, hT, gT_big (by omega), gT_big (by omega), maskT_get, if_neg (fun hm' => by
              obtain ⟨y, hy, hyd⟩ := mem_Xd.1 hm'; exact htn hyd.2)]
      have hstm : Stands C n (maskT (Xd n all X') (tput n (gT n all R (fun j => listed.getD j false) (j - s) s (maskT (Xd n all X) T0)) o.dst r)) H1 φ1 S1 a' w' := ⟨g1.heap, fun t => by
        rw [maskT_get]
        split
        · exact .d _ _ (.undef _)
        · exact g1.tmps t, g1.size, g1.defers⟩
      have eH1 : ∀ id, hget (gH (j + 1) H1.length R' (fun k => (listed.setIfInBounds j true).getD k false) (e' - (j + 1)) (j + 1) H1) id = hget H1 id := fun id => by
        rw [gH_get _ _ _ _ (Nat.le_refl _)]
        rw [if_neg (fun g => by
          have h1 := g.1; have h2 := g.2.1
          rw [hL'f _ (by omega) (by omega)] at g; cases g.2.2)]
      refine ih (U.erase j) (j + 1) e' (tput n T o.dst r) H1 R' X' (fun x => if x < s then vx x else (R x).1) _ a' w' φ1 S1 hU' hUl' (by simpa using hsz) (hc.set ho hd) q1 q2 q3 q4
        (fun k hk' => ?_) (fun x hx => ?_) (fun k h1 h2 => hL'f k (by omega) h2) (hstm.congr eT1 eH1) ((hsm'.trans g2).congr eH1) (hk.trans g3)
      · by_cases e : k = j
        · subst e; exact .inl hL'j
        · cases hL : listed.getD k false with
          | true => exact .inl (getD_set_true hL)
          | false =>
            refine .inr ((memX' k).2 ?_)
            rcases Nat.lt_or_ge k s with h | h
            · exact .inl ((hl1 k h).resolve_left (by rw [hL]; simp))
            · exact .inr ⟨h, by omega, hL⟩
      · obtain ⟨hxj, hxL⟩ := hX'un x hx
        have hxs : x < all.size := by omega
        have hox : all[x]? = some all[x] := by simp
        obtain ⟨hlx, hdx⟩ := hlagk x hxj hxL
        obtain ⟨px, hpx, hlpx⟩ := hlagpe x hlx
        obtain ⟨_, _, hdm, hl4⟩ := (plan_at hp hox hpx).2.2.2 hlpx
        have hdxa : dstAt all x = (all[x]).dst := by simp [dstAt, hox]
        -- behind it nobody writes what it reads, nor its slot
        have hw' : ∀ k, k < all.size → x < k → k ≤ j → ∀ t, dstAt all k = some t → t ∈ px.ms ∧ dstAt all x ≠ some t := fun k hk hxk hkj t ht => by
          have hok : all[k]? = some all[k] := by simp
          rcases hl4 k all[k] hok with h | h | h | h
          · omega
          · have : k ∈ planB plan x := by simp [planB, hpx, h]
            have := planB_lt hp x k this hxs; omega
          · rw [hdxa]; exact h t (by simpa [dstAt, hok] using ht)
          · exfalso
            by_cases e : k = j
            · subst e
              rw [hclB x h.1] at hxL; cases hxL
            · cases hL : listed.getD k false with
              | true =>
                have := closed_B hp hc k x all[k] hok (hc k all[k] hL hok) h.1
                rw [this] at hxL; cases hxL
              | false =>
                have := (hlagk k (by omega) hL).1
                rw [h.2] at this; cases this
        have hTe : ∀ t, dstAt all j ≠ some t → tget (tput n T o.dst r) t = tget (gT n all R (fun _ => true) (j - s) s T0) t := fun t ht => by
          rw [tget_tput_ne (by rw [← hdj]; exact ht), hT]
        rcases Nat.lt_or_ge x s with h | h
        · have hxX : x ∈ X := by
            rcases (memX' x).1 hx with h' | h'
            · exact h'
            · omega
          obtain ⟨_, _, o', pe', Tx, ho', hpe', hlag, hfact, hTx, hvx⟩ := hX x hxX
          rw [hox] at ho'; cases ho'
          rw [hpx] at hpe'; cases hpe'
          refine ⟨by omega, by rw [hL'ne x (by omega)]; exact hxL, _, px, Tx, hox, hpx, hlpx, by simpa [h] using hfact, fun t ht => ?_, fun t ht htn => ?_⟩
          · rw [hTe t (fun e => ht (hw' j (by omega) hxj (by omega) t e).1), gT_un _ _ _ (fun l h1 h2 _ h4 => ht (hw' l (by omega) (by omega) (by omega) t h4).1)]
            exact hTx t ht
          · rw [hTe t (fun e => (hw' j (by omega) hxj (by omega) t e).2 ht), gT_un _ _ _ (fun l h1 h2 _ h4 => (hw' l (by omega) (by omega) (by omega) t h4).2 ht)]
            show _ = if x < s then vx x else (R x).1
            rw [if_pos h]
            exact hvx t ht htn
        · obtain ⟨_, _, hfl⟩ := hf x px h hxj hpx
          obtain ⟨_, hfact⟩ := hfl hlpx
          refine ⟨by omega, by rw [hL'ne x (by omega)]; exact hxL, _, px, gT n all R (fun _ => true) (x - s) s T0, hox, hpx, hlpx, by simpa [Nat.not_lt.2 h] using hfact, fun t ht => ?_, fun t ht htn => ?_⟩
          · rw [hTe t (fun e => ht (hw' j (by omega) hxj (by omega) t e).1)]
            rw [show j - s = (x - s) + (j - x) by omega, gT_add, show s + (x - s) = x by omega]
            rw [gT_un _ _ _ (fun l h1 h2 _ h4 => by
              by_cases e : l = x
              · subst e; rw [hdxa] at h4; exact ht (hdm t h4)
              · exact ht (hw' l (by omega) (by omega) (by omega) t h4).1)]
          · rw [hTe t (fun e => (hw' j (by omega) hxj (by omega) t e).2 ht)]
            rw [gT_last ht htn rfl (j - s) s T0 h (by omega) (fun l h1 h2 _ h4 => (hw' l (by omega) h1 (by omega) t h4).2 ht)]
            show _ = if x < s then vx x else (R x).1
            rw [if_neg (by omega)]


section perm
variable {all all' : Array Oper} {D rl pl : List Nat} {md : Region.Mode}

structure POk (D rl pl : List Nat) (all : Array Oper) : Prop where
  rlen : rl.length = all.size
  plen : D.length + pl.length = all.size
  at_ : ∀ i, i < all.size → i ∈ D ∨ ∃ r, rl[i]? = some r ∧ r < pl.length ∧ pl[r]? = some i
  of_ : ∀ r, r < pl.length → ∃ p, pl[r]? = some p ∧ p < all.size ∧ p ∉ D ∧ rl[p]? = some r
  guard : ∀ (i : Nat) (o : Oper) g b, all[i]? = some o → o.guard = some (g, b) → g ∉ D
  take : D = [] ∨ (Region.noSelect all = true ∧ takeOk all D (Array.replicate all.size false) = true)

theorem permOk_iff (h : permOk D rl pl all.toList = true) : POk D rl pl all := by
  unfold permOk at h
  simp only [Bool.and_eq_true, beq_iff_eq, List.all_eq_true, List.mem_range, Array.length_toList, Bool.or_eq_true] at h
  obtain ⟨⟨⟨⟨⟨h1, h2⟩, h3⟩, h4⟩, h5⟩, h6⟩ := h
  refine ⟨h1, h2, fun i hi => ?_, fun r hr => ?_, fun i o g b ho hg hm => ?_, ?_⟩
  · rcases h3 i hi with h | h
    · exact .inl (by simpa using h)
    · right
      split at h
      · rename_i r e1
        simp only [Bool.and_eq_true, beq_iff_eq, decide_eq_true_eq] at h
        exact ⟨r, e1, h.1, h.2⟩
      · cases h
  · have h := h4 r hr
    split at h
    · rename_i p e1
      simp only [Bool.and_eq_true, beq_iff_eq, decide_eq_true_eq, Bool.not_eq_true'] at h
      exact ⟨p, e1, h.1.1, by simpa using h.1.2, h.2⟩
    · cases h
  · have h := h5 o (by rw [Array.mem_toList_iff]; exact Array.mem_of_getElem? ho)
    rw [hg] at h
    simp at h
    exact h hm
  · rcases h6 with h | h
    · exact .inl (by simpa using h)
    · exact .inr h

theorem perm_op (hk : POk D rl pl all) (he : all'.toList = permOps D rl pl all.toList) {i : Nat} {o : Oper} (ho : all[i]? = some o) (hD : i ∉ D) : ∃ r, rl.getD i i = r ∧ r < pl.length ∧ all'[r]? = some (permOp D rl o) := by
  have hi : i < all.size := (Array.getElem?_eq_some_iff.1 ho).1
  obtain ⟨r, h1, h3, h5⟩ := (hk.at_ i hi).resolve_left hD
  refine ⟨r, by simp [List.getD_eq_getElem?_getD, h1], h3, ?_⟩
  rw [← Array.getElem?_toList, he]
  unfold permOps
  rw [List.getElem?_map, h5]
  simp only [Option.map_some, List.getD_eq_getElem?_getD, Array.getElem?_toList, ho, Option.getD_some]
theorem perm_size (he : all'.toList = permOps D rl pl all.toList) : all'.size = pl.length := by
  rw [← Array.length_toList, he]
  simp [permOps]
theorem perm_out (hk : POk D rl pl all) {i : Nat} (hi : all.size ≤ i) : rl.getD i i = i := by
  rw [List.getD_eq_getElem?_getD, List.getElem?_eq_none (by rw [hk.rlen]; exact hi)]; rfl

theorem perm_yield (hk : POk D rl pl all) (he : all'.toList = permOps D rl pl all.toList) (tmps : Array Value) (j : Nat) (hD : j ∉ D) : yielded all' tmps (rl.getD j j) = yielded all tmps j := by
  unfold yielded
  cases ho : all[j]? with
  | none =>
    have hj : all.size ≤ j := by rw [Array.getElem?_eq_none_iff] at ho; exact ho
    have := hk.plen
    rw [perm_out hk hj, Array.getElem?_eq_none (by rw [perm_size he]; omega)]
  | some o =>
    obtain ⟨r, h1, h2, h3⟩ := perm_op hk he ho hD
    rw [h1, h3]; rfl
theorem perm_wanted (hk : POk D rl pl all) (he : all'.toList = permOps D rl pl all.toList) (tmps : Array Value) {i : Nat} {o : Oper} (ho : all[i]? = some o) : Region.wanted (permOp D rl o) (yielded all' tmps) = Region.wanted o (yielded all tmps) := by
  have hg0 := hk.guard i o
  obtain ⟨dst, op, ty, pos, after, guard⟩ := o
  cases guard with
  | none => rfl
  | some g =>
    obtain ⟨j, want⟩ := g
    have := perm_yield hk he tmps j (hg0 j want ho rfl)
    simp only [Region.wanted, permOp, Option.map_some, this]
theorem perm_wpOp (hk : POk D rl pl all) (he : all'.toList = permOps D rl pl all.toList) {Q : Exit → Act → World → Prop} {i : Nat} {o : Oper} (ho : all[i]? = some o) (hD : i ∉ D) {K : Act → World → Prop} {a : Act} {w : World} (h : wpOp P all' Q (rl.getD i i) K a w) : wpOp P all Q i K a w := by
  obtain ⟨r, h1, h2, h3⟩ := perm_op hk he ho hD
  unfold wpOp at h ⊢
  rw [h1, h3] at h
  rw [ho]
  simp only at h ⊢
  rw [perm_wanted hk he _ ho] at h
  exact h

def LRel (D rl : List Nat) (listed listed' : Array Bool) : Prop := (∀ d, d ∈ D → listed.getD d false = true) ∧ ∀ d, d ∉ D → listed'.getD (rl.getD d d) false = listed.getD d false

theorem wpAny_perm (hk : POk D rl pl all) (he : all'.toList = permOps D rl pl all.toList) {Q : Exit → Act → World → Prop} : ∀ (fuel : Nat) (listed listed' : Array Bool) (a : Act) (w : World), listed.size = all.size → listed'.size = pl.length → LRel D rl listed listed' →
    wpAny P md all' Q fuel listed' a w → wpAny P md all Q fuel listed a w := by
  have hbin : ∀ (e : Edge), Region.binds md { e with on := rl.getD e.on e.on } = Region.binds md e := fun e => rfl
  have hgd : ∀ (L : Array Bool) (j : Nat), j < L.size → L.getD j true = L.getD j false := fun L j hj => by simp [hj]
  have hready : ∀ (listed listed' : Array Bool) (i : Nat) (o : Oper), listed.size = all.size → listed'.size = pl.length → LRel D rl listed listed' → all[i]? = some o → i ∉ D → (rl.getD i i ∈ Region.ready md all' listed' ↔ i ∈ Region.ready md all listed) := by
    intro listed listed' i o hs hs' hr ho hD
    have hi : i < all.size := (Array.getElem?_eq_some_iff.1 ho).1
    obtain ⟨r, h1, h2, h3⟩ := perm_op hk he ho hD
    rw [mem_ready, mem_ready, h1, h3, ho, hgd _ _ (by omega), hgd _ _ (by omega), ← h1, hr.2 i hD]
    refine and_congr Iff.rfl ?_
    simp only [Option.some.injEq, exists_eq_left']
    constructor
    · intro h e hm hb
      by_cases hd : e.on ∈ D
      · exact hr.1 _ hd
      · have := h { e with on := rl.getD e.on e.on } (by
          simp only [permOp, List.mem_toArray, List.mem_map, List.mem_filter, Array.mem_toList_iff]
          exact ⟨e, ⟨hm, by simpa using hd⟩, rfl⟩) (by rw [hbin]; exact hb)
        rw [← hr.2 _ hd]; exact this
    · intro h e' hm hb
      simp only [permOp, List.mem_toArray, List.mem_map, List.mem_filter, Array.mem_toList_iff] at hm
      obtain ⟨e, ⟨hm, hd⟩, rfl⟩ := hm
      rw [hbin] at hb
      simp only
      rw [hr.2 _ (by simpa using hd)]; exact h e hm hb
  have hempty : ∀ (listed listed' : Array Bool), listed.size = all.size → listed'.size = pl.length → LRel D rl listed listed' → Region.ready md all listed = [] → Region.ready md all' listed' = [] := by
    intro listed listed' hs hs' hr h0
    refine List.eq_nil_iff_forall_not_mem.2 (fun r hm => ?_)
    obtain ⟨_, o', ho', _⟩ := mem_ready.1 hm
    have hrs : r < pl.length := by rw [← perm_size he]; exact (Array.getElem?_eq_some_iff.1 ho').1
    obtain ⟨i, h2, h4, h5, h6⟩ := hk.of_ r hrs
    have hri : rl.getD i i = r := by simp [List.getD_eq_getElem?_getD, h6]
    have := (hready listed listed' i all[i] hs hs' hr (by simp) h5).1 (by rw [hri]; exact hm)
    rw [h0] at this; simp at this
  have hnD : ∀ (listed listed' : Array Bool) (i : Nat), listed.size = all.size → LRel D rl listed listed' → i ∈ Region.ready md all listed → i ∉ D := by
    intro listed listed' i hs hr hm hD
    obtain ⟨h0, o, ho, _⟩ := mem_ready.1 hm
    have hi : i < all.size := (Array.getElem?_eq_some_iff.1 ho).1
    rw [hgd _ _ (by omega), hr.1 i hD] at h0; cases h0
  intro fuel
  induction fuel with
  | zero =>
    intro listed listed' a w hs hs' hr h
    refine ⟨?_, h.2⟩
    refine List.eq_nil_iff_forall_not_mem.2 (fun i hm => ?_)
    obtain ⟨_, o, ho, _⟩ := mem_ready.1 hm
    have := (hready listed listed' i o hs hs' hr ho (hnD listed listed' i hs hr hm)).2 hm
    rw [h.1] at this; simp at this
  | succ fuel ih =>
    intro listed listed' a w hs hs' hr h
    refine ⟨fun h0 => h.1 (hempty listed listed' hs hs' hr h0), fun i hm => ?_⟩
    obtain ⟨_, o, ho, _⟩ := mem_ready.1 hm
    have hi : i < all.size := (Array.getElem?_eq_some_iff.1 ho).1
    have hiD := hnD listed listed' i hs hr hm
    obtain ⟨r, h1, h2, h3⟩ := perm_op hk he ho hiD
    refine perm_wpOp hk he ho hiD (wpOp_mono (fun a w hh => ?_) (h.2 _ ((hready listed listed' i o hs hs' hr ho hiD).2 hm)))
    refine ih _ _ a w (by simpa using hs) (by simpa using hs') ⟨fun d hd => getD_set_true (hr.1 d hd), fun d hd => ?_⟩ hh
    by_cases e : i = d
    · subst e
      rw [h1]
      simp [hs, hs', hi, h2]
    · rw [getD_set_ne _ e, getD_set_ne _ (fun e2 => ?_), hr.2 d hd]
      rcases Nat.lt_or_ge d all.size with g | g
      · obtain ⟨rd, g1, _, g5⟩ := (hk.at_ d g).resolve_left hd
        obtain ⟨ri, k1, _, k5⟩ := (hk.at_ i hi).resolve_left hiD
        have a1 : rl.getD d d = rd := by simp [List.getD_eq_getElem?_getD, g1]
        have a2 : rl.getD i i = ri := by simp [List.getD_eq_getElem?_getD, k1]
        rw [a1, a2] at e2
        subst e2
        rw [g5] at k5; cases k5; exact e rfl
      · have := hk.plen
        rw [perm_out hk g, h1] at e2; omega

theorem takes_sound (hE : EOk P E) (hns : Region.noSelect all = true) {Q : Exit → Act → World → Prop} (hQ : ∀ c a w, ¬ Q (.panic c) a w) {C : Ctx} {φ : Nat → Option Loc} {S : Nat → Prop} {H : Heap} {w : World} {T2 : Tmps} {fuel : Nat} :
    ∀ (D : List Nat) (listed : Array Bool) (T : Tmps) (a : Act), takeOk all D listed = true → takesT E n H all.toList D T = some T2 → Stands C n T H φ S a w →
      (∀ a2, Stands C n T2 H φ S a2 w → wpAny P .any all Q fuel (D.foldl (fun l i => l.setIfInBounds i true) listed) a2 w) → wpAny P .any all Q (fuel + D.length) listed a w
  | [], listed, T, a, _, ht, hst, h => by
    simp only [takesT, Option.some.injEq] at ht
    subst ht
    exact h a hst
  | i :: r, listed, T, a, hk, ht, hst, h => by
    simp only [takeOk, Bool.and_eq_true] at hk
    obtain ⟨⟨⟨k1, k2⟩, k3⟩, k4⟩ := hk
    simp only [takesT, Array.getElem?_toList] at ht
    split at ht
    · rename_i o ho
      rw [ho] at k3
      have hg : o.guard = none := by simpa using k3
      split at ht
      · rename_i v hv
        unfold takeV at hv
        split at hv
        · rename_i t x f hop
          split at hv
          · rename_i ti id i0 j hti hx
            split at hv
            · rename_i off sz hsa
              split at hv
              · cases hv
              · rename_i h0
                split at hv
                · rename_i hw
                  cases hv
                  have hr := ev_rel hst.tmps x
                  rw [hx] at hr
                  obtain ⟨s, hsz⟩ := Option.isSome_iff_exists.1 hw
                  obtain ⟨L, hL, hc, hh⟩ := hr.ptr_inv hsz
                  have hrun := fun w' => out_fieldAddr_gen (P := P) (w := w') hop (hE _ _ hti) hsa h0 hc
                  have hst2 := hst.put (o := o) hst.heap .refl (by
                    have := hh i0 (j + off)
                    rw [← Nat.add_assoc] at this
                    exact this)
                  exact wpAny_take ho hns k1 k2 (fun c a w hq => absurd hq (hQ _ _ _)) (.inl ⟨by simp [Region.wanted, hg], hrun⟩) (takes_sound hE hns hQ r _ _ _ k4 ht hst2 h)
                · cases hv
            · cases hv
          · cases hv
        · cases hv
      · cases ht
    · cases ht

theorem foldl_listed (L : Array Bool) : ∀ (D : List Nat) (L : Array Bool), (D.foldl (fun l i => l.setIfInBounds i true) L).size = L.size ∧ (∀ d, L.getD d false = true → (D.foldl (fun l i => l.setIfInBounds i true) L).getD d false = true) ∧ (∀ d, d ∈ D → d < L.size → (D.foldl (fun l i => l.setIfInBounds i true) L).getD d false = true) ∧ (∀ d, d ∉ D → (D.foldl (fun l i => l.setIfInBounds i true) L).getD d false = L.getD d false)
  | [], L => ⟨rfl, fun _ h => h, fun d h => by simp at h, fun _ _ => rfl⟩
  | i :: r, L => by
    obtain ⟨h1, h2, h3, h4⟩ := foldl_listed L r (L.setIfInBounds i true)
    simp only [List.foldl_cons]
    refine ⟨by rw [h1]; simp, fun d h => h2 d (getD_set_true h), fun d hd hl => ?_, fun d hd => ?_⟩
    · rcases List.mem_cons.1 hd with rfl | hd
      · exact h2 d (by simp [hl])
      · exact h3 d hd (by simpa using hl)
    · rw [h4 d (fun e => hd (List.mem_cons_of_mem _ e)), getD_set_ne _ (fun e => hd (by simp [e]))]
theorem takeOk_lt : ∀ (D : List Nat) (listed : Array Bool), takeOk all D listed = true → ∀ d ∈ D, d < all.size
  | [], _, _, d, h => by simp at h
  | i :: r, listed, hk, d, hd => by
    simp only [takeOk, Bool.and_eq_true] at hk
    rcases List.mem_cons.1 hd with rfl | hd
    · obtain ⟨_, k3⟩ := hk.1
      split at k3
      · rename_i o ho; exact (Array.getElem?_eq_some_iff.1 ho).1
      · cases k3
    · exact takeOk_lt r _ hk.2 d hd
end perm

theorem region_wpAny (hE : EOk P E) (hmix : P.follows .mixedOrders = true) {T : Tmps} {H : Heap} {C : Ctx} {φ : Nat → Option Loc} {S : Nat → Prop} {a : Act} {w : World} {Q : Ex → Tmps → Heap → Prop} (hst1 : Stands C n T H φ S a { w with drawn := w.drawn + 1 })
    (hp : planOk all.toList plan = true) (h : drun P E n all.toList 0 H.length 0 all.toList plan T H (Q .normal)) : wpAny P .any all (PostQ C n m φ S H w Q) all.size (Array.replicate all.size false) a { w with drawn := w.drawn + 1 } := by
  have hsm1 : StepM m φ S H w φ S H { w with drawn := w.drawn + 1 } := (Step.drew (φ := φ) (S := S) (H := H) (w := w)).toM (Nat.le_refl _)
  have hk1 : Kp C w { w with drawn := w.drawn + 1 } := ⟨rfl, rfl, rfl, Nat.le_refl _, fun _ _ _ => rfl⟩
  obtain ⟨e, R, q1, q2, q3, q4⟩ := extract (all := all) (m := m) (plan := plan) hE hp all.toList 0 T H T H (by simp) (by simp) (Nat.le_refl _) (fun _ => rfl) (fun _ => rfl) (by simpa using h)
  have hrep : ∀ j, (Array.replicate all.size false).getD j false = false := fun j => by
    simp only [Array.getD_eq_getD_getElem?, Array.getElem?_replicate]
    split <;> rfl
  have eT : ∀ t, tget (gT n all R (fun j => (Array.replicate all.size false).getD j false) (e - 0) 0 (maskT (Xd n all []) T)) t = tget T t := fun t => gT_un _ _ _ (fun k _ _ h3 => by simp only [hrep] at h3; cases h3)
  have eH : ∀ id, hget (gH 0 H.length R (fun j => (Array.replicate all.size false).getD j false) (e - 0) 0 H) id = hget H id := fun id => by
    rw [gH_get _ _ _ _ (Nat.le_refl _), if_neg (fun g => by rw [hrep] at g; cases g.2.2)]
  refine any_sound (m := m) (Q := Q .normal) (plan := plan) hE hp (φ0 := φ) (S0 := S) (H00 := H) (w0 := w) (C := C) (fun T1 H1 φ1 S1 a1 w1 hq h1 h2 h3 => ⟨.normal, T1, H1, φ1, S1, hq, rfl, h1, h2, h3⟩) all.size (List.range all.size) 0 e T H R [] (fun _ => .d .undef)
    (Array.replicate all.size false) a _ φ S (by simp) (fun j hj _ => List.mem_range.2 hj) (by simp) (fun j o hj => by rw [hrep] at hj; cases hj) q1 q2 (fun j pe h1 h2 h3 => q3 j pe h1 h2 h3) q4 (fun j hj => by omega) (fun x hx => by simp at hx) (fun j _ _ => hrep j)
    (hst1.congr eT eH) (hsm1.congr eH) hk1

theorem region_sound' (hE : EOk P E) (hmix : P.follows .mixedOrders = true) {id : Nat} {T T2 : Tmps} {H : Heap} {C : Ctx} {φ : Nat → Option Loc} {S : Nat → Prop} {a : Act} {w : World} {Q : Ex → Tmps → Heap → Prop} {l' : List Oper} (hst : Stands C n T H φ S a w)
    (hpm : PermOf E n H T all.toList T2 l') (hp : planOk l' plan = true) (h : drun P E n l' 0 H.length 0 l' plan T2 H (Q .normal)) : (Code.region id all true).wp P (PostQ C n m φ S H w Q) a w := by
  refine wp_region_any hmix ?_
  have hw1 : Stands C n T H φ S a { w with drawn := w.drawn + 1 } := by
    have hs : Step φ S H w φ S H w.drew := Step.drew
    exact ⟨hst.heap.drew, hst.tmps.step hs, hst.size, hst.defers⟩
  rcases hpm with ⟨rfl, rfl⟩ | ⟨D, rl, pl, hk, ht, rfl⟩
  · exact region_wpAny hE hmix hw1 hp h
  · have hk' := permOk_iff hk
    have he : (permOps D rl pl all.toList).toArray.toList = permOps D rl pl all.toList := rfl
    have hsz := perm_size he
    have hrep : ∀ (k j : Nat), (Array.replicate k false).getD j false = false := fun k j => by
      simp only [Array.getD_eq_getD_getElem?, Array.getElem?_replicate]
      split <;> rfl
    have main : ∀ a2, Stands C n T2 H φ S a2 { w with drawn := w.drawn + 1 } → wpAny P .any all (PostQ C n m φ S H w Q) pl.length (D.foldl (fun l i => l.setIfInBounds i true) (Array.replicate all.size false)) a2 { w with drawn := w.drawn + 1 } := fun a2 hst2 => by
      have h1 := region_wpAny (m := m) (all := (permOps D rl pl all.toList).toArray) (P := P) (Q := Q) hE hmix hst2 hp h
      rw [hsz] at h1
      obtain ⟨f1, f2, f3, f4⟩ := foldl_listed (Array.replicate all.size false) D (Array.replicate all.size false)
      refine wpAny_perm hk' he pl.length _ _ _ _ (by rw [f1]; simp) (by simp) ⟨fun d hd => f3 d hd (by
        rcases hk'.take with h0 | ⟨_, h0⟩
        · rw [h0] at hd; simp at hd
        · simpa using takeOk_lt D _ h0 d hd), fun d hd => ?_⟩ h1
      rw [hrep, f4 d hd, hrep]
    rcases hk'.take with h0 | ⟨hns, htk⟩
    · subst h0
      simp only [takesT, Option.some.injEq] at ht
      subst ht
      have := main a hw1
      have hpl := hk'.plen
      simp only [List.length_nil, Nat.zero_add] at hpl
      rw [hpl] at this
      exact this
    · have := takes_sound (C := C) (φ := φ) (S := S) (H := H) (T2 := T2) (fuel := pl.length) hE hns (Q := PostQ C n m φ S H w Q) (fun c a w hq => by
        obtain ⟨e, _, _, _, _, _, he, _⟩ := hq
        cases e <;> cases he) D _ T a htk ht hw1 (fun a2 hst2 => main a2 hst2)
      have hpl := hk'.plen
      rw [Nat.add_comm, hpl] at this
      exact this

end
end Go.Proofs.Ytaejlmengfahnaa.AM

set_option linter.all false
namespace Go.Proofs.Ytaejlmengfahnaa.AM
open Go Go.RowKit

section
variable {P : Program} {E : Env} {n m : Nat}

theorem loop_sound {x : Code} {F : Tmps → Heap → (Ex → Tmps → Heap → Prop) → Prop}
    (hF : ∀ {T : Tmps} {H : Heap} {Q : Ex → Tmps → Heap → Prop} {C : Ctx} {φ : Nat → Option Loc} {S : Nat → Prop} {a : Act} {w : World}, Stands C n T H φ S a w → F T H Q → x.wp P (PostQ C n m φ S H w Q) a w) {Q : Ex → Tmps → Heap → Prop} :
    ∀ (k : Nat) {T : Tmps} {H : Heap} {C : Ctx} {φ : Nat → Option Loc} {S : Nat → Prop} {a : Act} {w : World}, Stands C n T H φ S a w → aloop m F Q k T H → ∀ (b : Frame) (kk : List Item) (cs : List Frame),
      ∃ e a' w', PostQ C n m φ S H w Q e a' w' ∧ Arrives P (lone (b.at a (.code x :: .inLoop x :: kk)) cs w) b kk cs e a' w'
  | 0, _, _, _, _, _, _, _, _, h => h.elim
  | k + 1, T, H, C, φ, S, a, w, hst, h => by
    intro b kk cs
    obtain ⟨e, a1, w1, ⟨e', T', H', φ', S', hq, rfl, hst', hs', hk'⟩, harr⟩ := hF hst h b (.inLoop x :: kk) cs
    cases e' with
    | normal =>
      obtain ⟨T'', H'', hw, hl⟩ := hq
      obtain ⟨φ'', S'', g1, g2, g3⟩ := hw C φ' S' w1 a1 hst'.heap hst'.tmps
      obtain ⟨e2, a2, w2, hp, harr2⟩ := loop_sound hF k (⟨g1, g2, hst'.size, hst'.defers⟩ : Stands C n T'' H'' φ'' S'' a1 w1) hl b kk cs
      exact ⟨e2, a2, w2, (hp.from g3 .refl).from hs' hk', .of_steps (Steps.trans harr (.one step_inLoop)) harr2⟩
    | exit id => exact ⟨.exit id, a1, w1, ⟨.exit id, T', H', φ', S', hq, rfl, hst', hs', hk'⟩, .pass (x := .inLoop x) rfl (fun _ _ => .inl (by simp)) harr⟩
    | ret => exact ⟨.ret, a1, w1, ⟨.ret, T', H', φ', S', hq, rfl, hst', hs', hk'⟩, .pass (x := .inLoop x) rfl (fun _ _ => .inl (by simp)) harr⟩

theorem TRel.told_op {φ : Nat → Option Loc} {S : Nat → Prop} {H : Heap} {w : World} {T : Tmps} {a : Act} (hT : TRel φ S H w T a) {c : Operand} {b : Bool} (h : ev T c = .d (.bool b)) : TRel φ S H w (AM.told c b T) a := by
  cases c with
  | tmp t =>
    have := hT t
    simp only [ev] at h
    rw [h] at this
    exact hT.told this
  | _ => exact hT

theorem awp_sound (hE : EOk P E) (hmix : P.follows .mixedOrders = true) : ∀ (c : Code) {T : Tmps} {H : Heap} {Q : Ex → Tmps → Heap → Prop} {C : Ctx} {φ : Nat → Option Loc} {S : Nat → Prop} {a : Act} {w : World},
    Stands C n T H φ S a w → awp P E n m c T H Q → c.wp P (PostQ C n m φ S H w Q) a w
  | .skip, T, H, Q, C, φ, S, a, w, hst, h => wp_skip ⟨.normal, T, H, φ, S, h, rfl, hst, .refl, .refl⟩
  | .label _, T, H, Q, C, φ, S, a, w, hst, h => wp_label ⟨.normal, T, H, φ, S, h, rfl, hst, .refl, .refl⟩
  | .exit id, T, H, Q, C, φ, S, a, w, hst, h => wp_exit ⟨.exit id, T, H, φ, S, h, rfl, hst, .refl, .refl⟩
  | .ret, T, H, Q, C, φ, S, a, w, hst, h => wp_ret ⟨.ret, T, H, φ, S, h, rfl, hst, .refl, .refl⟩
  | .region _ ops false, T, H, Q, C, φ, S, a, w, hst, h => by
    refine wp_region ?_
    have := aops_sound (m := m) hE (all := ops) (Q := Q .normal) (Q' := PostQ C n m φ S H w Q) ops.toList 0 (fun i => by simp) (by simp) hst h
      (fun a' w' ⟨T', H', φ', S', h1, h2, h3, h4⟩ => ⟨.normal, T', H', φ', S', h1, rfl, h2, h3, h4⟩)
    simpa using this
  | .seq x y, T, H, Q, C, φ, S, a, w, hst, h => by
    refine wp_seq (wp_mono (awp_sound hE hmix x hst h) ?_)
    rintro e a1 w1 ⟨e', T', H', φ', S', hq, rfl, hst', hs', hk'⟩
    cases e' with
    | normal => exact wp_mono (awp_sound hE hmix y hst' hq) (fun e a2 w2 hp => hp.from hs' hk')
    | exit id => exact ⟨.exit id, T', H', φ', S', hq, rfl, hst', hs', hk'⟩
    | ret => exact ⟨.ret, T', H', φ', S', hq, rfl, hst', hs', hk'⟩
  | .cond c x y, T, H, Q, C, φ, S, a, w, hst, h => by
    simp only [awp] at h
    split at h
    · rename_i b hb
      have hv := ev_rel hst.tmps c
      rw [hb] at hv
      refine wp_cond hv.bool_inv ?_
      cases b with
      | true => simp only [if_true] at h ⊢; exact awp_sound hE hmix x ⟨hst.heap, hst.tmps.told_op hb, hst.size, hst.defers⟩ h
      | false => simp only [Bool.false_eq_true, if_false] at h ⊢; exact awp_sound hE hmix y ⟨hst.heap, hst.tmps.told_op hb, hst.size, hst.defers⟩ h
    · exact h.elim
  | .block id x, T, H, Q, C, φ, S, a, w, hst, h => by
    refine wp_block (wp_mono (awp_sound hE hmix x hst h) ?_)
    rintro e a1 w1 ⟨e', T', H', φ', S', hq, rfl, hst', hs', hk'⟩
    cases e' with
    | normal => exact ⟨.normal, T', H', φ', S', hq, rfl, hst', hs', hk'⟩
    | exit i =>
      simp only [Exit.inBlock, Ex.of]
      simp only at hq
      split at hq
      · rename_i e; subst e; rw [if_pos rfl]; exact ⟨.normal, T', H', φ', S', hq, rfl, hst', hs', hk'⟩
      · rename_i e; rw [if_neg e]; exact ⟨.exit i, T', H', φ', S', hq, rfl, hst', hs', hk'⟩
    | ret => exact ⟨.ret, T', H', φ', S', hq, rfl, hst', hs', hk'⟩
  | .loop x, T, H, Q, C, φ, S, a, w, hst, h => by
    obtain ⟨T0, H0, hw, k, hl⟩ := h
    obtain ⟨φ0, S0, g1, g2, g3⟩ := hw C φ S w a hst.heap hst.tmps
    intro b kk cs
    obtain ⟨e, a', w', hp, harr⟩ := loop_sound (x := x) (F := awp P E n m x) (fun hst h => awp_sound hE hmix x hst h) k (⟨g1, g2, hst.size, hst.defers⟩ : Stands C n T0 H0 φ0 S0 a w) hl b kk cs
    exact ⟨e, a', w', hp.from g3 .refl, .of_steps (.one step_loop) harr⟩
  | .region _ ops true, T, H, Q, C, φ, S, a, w, hst, h => by
    obtain ⟨T1, H1, hw, T2, ops', hpm, plan, hp, hd⟩ := h
    obtain ⟨φ1, S1, g1, g2, g3⟩ := hw C φ S w a hst.heap hst.tmps
    exact wp_mono (region_sound' hE hmix (⟨g1, g2, hst.size, hst.defers⟩ : Stands C n T1 H1 φ1 S1 a w) hpm hp hd) (fun e a2 w2 hq => hq.from g3 .refl)
  | .rangeFunc .., _, _, _, _, _, _, _, _, _, h => h.elim
  | .scope _, _, _, _, _, _, _, _, _, _, h => h.elim
  | .goto _, _, _, _, _, _, _, _, _, _, h => h.elim
  | .refuse _, _, _, _, _, _, _, _, _, _, h => h.elim


def resV (E : Env) (T : Tmps) (H : Heap) : ResultVar → Option V
  | .tmp t => some (tget T t)
  | .cell t ty => match E ty, tget T t with
    | some ti, .ptr id i j => match hget H id with
      | .box _ cells => if i = 0 then
          if ti.agg then (if j + ti.size ≤ cells.length then some (.agg ((cells.drop j).take ti.size)) else none)
          else cells[j]?
        else none
      | _ => none
    | _, _ => none

def resVs (E : Env) (T : Tmps) (H : Heap) : List ResultVar → Option (List V)
  | [] => some []
  | r :: rs => match resV E T H r, resVs E T H rs with
    | some v, some vs => some (v :: vs)
    | _, _ => none

def resOf (E : Env) (T : Tmps) (H : Heap) (rs : List ResultVar) : Option V :=
  match resVs E T H rs with
  | some [v] => some v
  | some vs => some (.tuple vs)
  | none => none

def Fin (E : Env) (rs : List ResultVar) (r : D) : Ex → Tmps → Heap → Prop
  | .exit _, _, _ => False
  | _, T, H => ∃ v, resOf E T H rs = some v ∧ xport H 40 v = some r

theorem run_loadVar_of {o : Oper} {t : Nat} {x : Operand} {c : Value} {P : Program} {a : Act} {w : World} {A : Addr} (ho : o.op = .load t x) (hx : a.eval x = .pointer (some A)) (h : (execOp a.eval o).run P w = .ok (.value c) w) : (loadVar t A).run P w = .ok c w := by
  simp only [execOp, ho, Instr.loadAt, hx, Instr.sureAddr, Sem.run_bind, Sem.run_pure, Result.andThen_ok] at h
  generalize (loadVar t A).run P w = r at h
  cases r with
  | ok c' w' => simp at h; obtain ⟨rfl, rfl⟩ := h; rfl
  | halt => simp at h

theorem resV_sound {C : Ctx} {φ : Nat → Option Loc} {S : Nat → Prop} {H : Heap} {w : World} {T : Tmps} {a : Act} (hE : EOk P E) (hst : Stands C n T H φ S a w) {rv : ResultVar} {v : V} (h : resV E T H rv = some v) :
    ∃ c, ((match rv with | .tmp t => pure (a.tmps.getD t undef) | .cell t ty => do loadVar ty (← asAddr (a.tmps.getD t undef)) : Sem Value)).run P w = .ok c w ∧ RV φ S H w v c := by
  cases rv with
  | tmp t => simp [resV] at h; subst h; exact ⟨_, rfl, hst.tmps t⟩
  | cell t ty =>
    simp only [resV] at h
    split at h
    · rename_i ti id i j hti hx
      split at h
      · rename_i fz cells hg
        split at h
        · rename_i hi
          have hl : if ti.agg then j + ti.size ≤ cells.length ∧ v = .agg ((cells.drop j).take ti.size) else cells[j]? = some v := by
            split at h
            · split at h
              · rename_i h1 h2; rw [if_pos h1]; simp at h; exact ⟨h2, h.symm⟩
              · cases h
            · rename_i h1; rw [if_neg h1]; exact h
          let o : Oper := { (default : Oper) with op := .load ty (.tmp t) }
          have hp := hst.tmps t
          rw [hx] at hp
          obtain ⟨L, hL, hc, _⟩ := hp.ptr_inv (sz := cells.length) (by rw [hg]; rfl)
          -- the load leaves the world alone
          obtain ⟨c2, hq, hv2⟩ := load_box_run (P := P) (o := o) (x := .tmp t) (T := T) (a := a) rfl (hE _ _ hti) (by simpa [ev] using hx) hi hg hl hst.heap hst.tmps
          refine ⟨c2, ?_, hv2⟩
          have := run_loadVar_of (o := o) (t := ty) (x := .tmp t) rfl (by simpa [Act.eval] using hc) hq
          simp [hc, asAddr, this]
        · cases h
      · cases h
    · cases h

theorem resVs_sound {C : Ctx} {φ : Nat → Option Loc} {S : Nat → Prop} {H : Heap} {w : World} {T : Tmps} {a : Act} (hE : EOk P E) (hst : Stands C n T H φ S a w) : ∀ (rs : List ResultVar) (vs : List V), resVs E T H rs = some vs →
    ∃ cs, (rs.mapM (fun | .tmp t => pure (a.tmps.getD t undef) | .cell t ty => do loadVar ty (← asAddr (a.tmps.getD t undef)) : ResultVar → Sem Value)).run P w = .ok cs w ∧ RVs φ S H w vs cs
  | [], vs, h => by simp [resVs] at h; subst h; exact ⟨[], by simp, .nil⟩
  | r :: rs, vs, h => by
    simp only [resVs] at h
    split at h
    · rename_i v vs' hv hvs
      simp at h; subst h
      obtain ⟨c, h1, h2⟩ := resV_sound hE hst hv
      obtain ⟨cs, h3, h4⟩ := resVs_sound hE hst rs vs' hvs
      refine ⟨c :: cs, ?_, .cons h2 h4⟩
      cases r <;> (simp only [List.mapM_cons, Sem.run_bind] at h1 ⊢; simp only [h1, Result.andThen_ok, h3, Sem.run_pure])
    · cases h

theorem resOf_sound {C : Ctx} {φ : Nat → Option Loc} {S : Nat → Prop} {H : Heap} {w : World} {T : Tmps} {a : Act} {fn : Func} {v : V} (hE : EOk P E) (hst : Stands C n T H φ S a w) (h : resOf E T H fn.results.toList = some v) :
    ∃ c, (results fn a.tmps).run P w = .ok c w ∧ RV φ S H w v c := by
  unfold resOf at h
  obtain ⟨vs, hvs⟩ : ∃ vs, resVs E T H fn.results.toList = some vs := by
    cases hr : resVs E T H fn.results.toList with
    | none => simp [hr] at h
    | some vs => exact ⟨vs, rfl⟩
  obtain ⟨cs, h1, h2⟩ := resVs_sound hE hst _ vs hvs
  have hrun : (results fn a.tmps).run P w = .ok (if h : cs.toArray.size = 1 then cs.toArray[0] else .tuple cs.toArray) w := by
    unfold results
    rw [Array.mapM_eq_mapM_toList]
    simp only [Sem.run_bind, Sem.run_map]
    erw [h1]
    rfl
  rw [hrun]
  refine ⟨_, rfl, ?_⟩
  rw [hvs] at h
  match vs, cs, h2, h with
  | [v0], [c0], h2, h => simp at h; subst h; simpa using h2.at_ 0 v0 c0 rfl rfl
  | [], cs, h2, h =>
    have : cs = [] := List.eq_nil_of_length_eq_zero h2.len.symm
    subst this; simp at h; subst h
    exact .tuple [] [] rfl (fun i v c h => by simp at h)
  | v0 :: v1 :: vs, cs, h2, h =>
    simp at h; subst h
    have hl := h2.len
    simp at hl
    rw [dif_neg (by simp; omega)]
    exact .tuple _ _ h2.len h2.at_
  | [v0], [], h2, h => have := h2.len; simp at this
  | [v0], c0 :: c1 :: cs, h2, h => have := h2.len; simp at this

def initT : Nat → List D → Tmps
  | _, [] => []
  | i, d :: r => (i, .d d) :: initT (i + 1) r

theorem initT_get : ∀ (ds : List D) (i t : Nat), tget (initT i ds) t = if i ≤ t then (match ds[t - i]? with | some d => .d d | none => .d .undef) else .d .undef
  | [], i, t => by simp [initT, tget]
  | d :: r, i, t => by
    simp only [initT, tget]
    by_cases h : t = i
    · subst h; simp
    · rw [if_neg h, initT_get r (i + 1) t]
      by_cases h1 : i ≤ t
      · rw [if_pos h1, if_pos (by omega)]
        have : t - i = (t - (i + 1)) + 1 := by omega
        rw [this]; simp
      · rw [if_neg h1, if_neg (by omega)]

theorem CSpec.of_awp {f : Nat} {fn : Func} {body : Code} {args : List D} {r : D} (hE : EOk P E) (hmix : P.follows .mixedOrders = true) (hf : P.funcs[f]? = some fn) (hb : fn.body = some body) (hcall : Callable P f) (hn : args.length ≤ fn.ntmps)
    (h : awp P E fn.ntmps 0 body (initT 0 args) [] (Fin E fn.results.toList r)) : CSpec P f args r := by
  refine ⟨hcall, fun S0 w cs hS0 hlen hrel => ?_⟩
  have hsz : (cs.toArray ++ Array.replicate (fn.ntmps - cs.toArray.size) undef).size = fn.ntmps := by simp; omega
  have hst : Stands ⟨w.heap.size, fun _ => False, S0⟩ fn.ntmps (initT 0 args) [] (fun _ => none) S0 { tmps := cs.toArray ++ Array.replicate (fn.ntmps - cs.toArray.size) undef, defers := [] } w := by
    refine ⟨⟨Nat.le_refl _, (fun id L h => by cases h), (fun B hB => .inl hB), (fun i j L L' h => by cases h), (fun id => rfl), hS0⟩, fun t => ?_, hsz, rfl⟩
    rw [initT_get]
    simp only [Nat.zero_le, if_true, Nat.sub_zero]
    by_cases ht : t < args.length
    · have hc : t < cs.length := by omega
      rw [List.getElem?_eq_getElem ht]
      have : (cs.toArray ++ Array.replicate (fn.ntmps - cs.toArray.size) undef).getD t undef = cs[t] := by
        simp [Array.getElem?_append, hc]
      rw [this]
      exact .d _ _ (hrel t _ _ (List.getElem?_eq_getElem ht) (List.getElem?_eq_getElem hc))
    · rw [List.getElem?_eq_none (by omega)]
      exact .d _ _ (.undef _)
  refine calls_of_wp hf hb (wp_mono (awp_sound (m := 0) hE hmix body hst h) ?_)
  rintro e a' w' ⟨e', T', H', φ', S', hq, rfl, hst', hs', hk'⟩
  have fin : (∃ v, resOf E T' H' fn.results.toList = some v ∧ xport H' 40 v = some r) → a'.defers = [] ∧ ∃ v, (results fn a'.tmps).run P w' = .ok v w' ∧ ∃ c S', Ending.returned v = .returned c ∧ RD S' w' r c ∧ (∀ B, S' B → (S0 B ∨ w.heap.size ≤ B) ∧ B < w'.heap.size) ∧ Kp ⟨w.heap.size, fun _ => False, S0⟩ w w' := by
    rintro ⟨v, hv, hx⟩
    obtain ⟨c, hrun, hc⟩ := resOf_sound hE hst' hv
    refine ⟨hst'.defers, c, hrun, c, fun B => (S0 B ∨ w.heap.size ≤ B) ∧ B < w'.heap.size, rfl, ?_, fun B hB => hB, hk'⟩
    have hv1 : ∀ B, S' B → S0 B ∨ w.heap.size ≤ B := fun B hB => by
      rcases hst'.heap.vis B hB with h | h | h
      · exact .inl h
      · exact h.elim
      · exact .inr h
    have hv2 : ∀ i L, φ' i = some L → S0 L.blk ∨ w.heap.size ≤ L.blk := fun i L hL => by
      rcases hst'.heap.own i L hL with h | h
      · exact h.elim
      · exact .inr h
    exact xport_rel hst'.heap (fun B hB => ⟨hv1 B hB, hst'.heap.low B hB⟩) 40 v c r (fun i _ L hL => ⟨hv2 i L hL, hst'.heap.lt hL⟩) hc hx
  cases e' with
  | normal => exact fin hq
  | ret => exact fin hq
  | exit id => exact hq.elim

end
end Go.Proofs.Ytaejlmengfahnaa.AM

set_option linter.all false
namespace Go.Proofs.Ytaejlmengfahnaa.AM
open Go Go.RowKit Go.ChangeShapes Go.WideShapes Go.ChangeAt

def contig (P : Program) : List Field → Nat → Nat → Bool
  | [], o, tot => o == tot
  | f :: r, o, tot => f.offset == o && contig P r (o + P.cellsOf f.type) tot

def plainB (P : Program) : Nat → TypeId → Bool
  | 0, _ => false
  | n + 1, t => match P.underlying t with
    | some .bool => true
    | some (.int _) => true
    | some (.slice e) => decide (0 < P.cellsOf e) && plainB P n e
    | some (.struct fs) => contig P fs.toList 0 (P.cellsOf t) && fs.toList.all (fun f => plainB P n f.type)
    | some (.array m e) => P.cellsOf t == m * P.cellsOf e && plainB P n e
    | _ => false

def ShF (f : TypeId → List D → Prop) : List Field → List D → Prop
  | [], ds => ds = []
  | a :: r, ds => ∃ p q, ds = p ++ q ∧ f a.type p ∧ ShF f r q

def oneD (P : Program) (t : TypeId) (ds : List D) : D := match P.underlying t with
  | some (.struct _) => .agg ds
  | some (.array _ _) => .agg ds
  | _ => ds.headD .undef

def Sh (P : Program) : Nat → TypeId → List D → Prop
  | 0, _, _ => False
  | n + 1, t, ds => match P.underlying t with
    | some .bool => ∃ b, ds = [.bool b]
    | some (.int k) => ∃ x, ds = [.int k x] ∧ (Lit.int k x).wf = true
    | some (.slice e) => ∃ els : List (List D), ds = [.vec (els.map (oneD P e))] ∧ els.length ≤ maxLen ∧ ∀ x ∈ els, Sh P n e x
    | some (.struct fs) => ShF (Sh P n) fs.toList ds
    | some (.array m e) => ∃ els : List (List D), ds = els.flatten ∧ els.length = m ∧ ∀ x ∈ els, Sh P n e x
    | _ => False

def ShE (P : Program) (n : Nat) (t : TypeId) (d : D) : Prop := ∃ ds, Sh P n t ds ∧ d = oneD P t ds

theorem oneD_cells {P : Program} {n : Nat} {t : TypeId} {ds : List D} (h : Sh P n t ds) : (oneD P t ds).cells = ds := by
  cases n with
  | zero => exact h.elim
  | succ n =>
    simp only [Sh] at h
    unfold oneD
    split at h
    · rename_i ht; obtain ⟨b, rfl⟩ := h; simp [ht, D.cells]
    · rename_i k ht; obtain ⟨b, rfl, _⟩ := h; simp [ht, D.cells]
    · rename_i e ht; obtain ⟨b, rfl, _⟩ := h; simp [ht, D.cells]
    · rename_i fs ht; simp [ht, D.cells]
    · rename_i m e ht; simp [ht, D.cells]
    · exact h.elim

section
variable {H : Type} {enc : TypeId × Value → H} {P : Program} {w : World} {S0 : Nat → Prop}

def RDs (S0 : Nat → Prop) (w : World) (ds : List D) (cs : List Value) : Prop := ds.length = cs.length ∧ ∀ (i : Nat) (d : D) (c : Value), ds[i]? = some d → cs[i]? = some c → RD S0 w d c

theorem RDs.nil : RDs S0 w [] [] := ⟨rfl, by simp⟩
theorem RDs.one {d : D} {c : Value} (h : RD S0 w d c) : RDs S0 w [d] [c] := ⟨rfl, fun i d' c' hd hc => by
  cases i with
  | zero => simp at hd hc; subst hd; subst hc; exact h
  | succ i => simp at hd⟩
theorem RDs.cons {d : D} {c : Value} {ds : List D} {cs : List Value} (h : RD S0 w d c) (hs : RDs S0 w ds cs) : RDs S0 w (d :: ds) (c :: cs) := ⟨by simp [hs.1], fun i d' c' hd hc => by
  cases i with
  | zero => simp at hd hc; subst hd; subst hc; exact h
  | succ i => exact hs.2 i d' c' (by simpa using hd) (by simpa using hc)⟩
theorem RDs.append {a b : List D} {c d : List Value} (h : RDs S0 w a c) (h' : RDs S0 w b d) : RDs S0 w (a ++ b) (c ++ d) := by
  refine ⟨by simp [h.1, h'.1], fun i x y hx hy => ?_⟩
  rcases Nat.lt_or_ge i a.length with hi | hi
  · rw [List.getElem?_append_left hi] at hx
    rw [List.getElem?_append_left (by have := h.1; omega)] at hy
    exact h.2 i x y hx hy
  · rw [List.getElem?_append_right hi] at hx
    rw [List.getElem?_append_right (by have := h.1; omega), ← h.1] at hy
    exact h'.2 _ x y hx hy

theorem fields_sh {F : TypeId → List D → Prop} {cs : List Value} : ∀ (fs : List Field) (o : Nat), contig P fs o cs.length = true → o ≤ cs.length →
    (∀ f ∈ fs, f.offset + P.cellsOf f.type ≤ cs.length → ∃ ds, F f.type ds ∧ RDs S0 w ds ((cs.drop f.offset).take (P.cellsOf f.type))) → ∃ ds, ShF F fs ds ∧ RDs S0 w ds (cs.drop o)
  | [], o, h, _, _ => by
    simp only [contig, beq_iff_eq] at h
    exact ⟨[], rfl, by rw [h, List.drop_length]; exact RDs.nil⟩
  | f :: r, o, h, ho, hf => by
    simp only [contig, Bool.and_eq_true, beq_iff_eq] at h
    have hle : ∀ (fs : List Field) (o : Nat), contig P fs o cs.length = true → o ≤ cs.length := by
      intro fs
      induction fs with
      | nil => intro o h; simp [contig] at h; omega
      | cons g r ih => intro o h; simp only [contig, Bool.and_eq_true, beq_iff_eq] at h; have := ih _ h.2; omega
    have h2 := hle _ _ h.2
    obtain ⟨p, hp1, hp2⟩ := hf f (by simp) (by omega)
    obtain ⟨q, hq1, hq2⟩ := fields_sh r _ h.2 h2 (fun g hg => hf g (by simp [hg]))
    refine ⟨p ++ q, ⟨p, q, rfl, hp1, hq1⟩, ?_⟩
    have := hp2.append hq2
    rw [h.1, ← List.drop_drop, List.take_append_drop] at this
    exact this

theorem sh_of_trod (hS : ∀ B, B < w.heap.size → S0 B) {sp : Nat → Bool} {hd : Bool} : ∀ (n : Nat) {t : TypeId} {fuel : Nat} {cs : List Value} {x : DataW H × List MemPlace}, plainB P n t = true → DataW.trod enc P w 0 sp hd fuel t cs = some x →
    ∃ ds, Sh P n t ds ∧ RDs S0 w ds cs
  | 0, _, _, _, _, h, _ => by simp [plainB] at h
  | n + 1, t, fuel, cs, x, h, hx => by
    simp only [plainB] at h
    split at h
    · rename_i ht
      cases fuel with
      | zero => simp [DataW.trod] at hx
      | succ fuel =>
        unfold DataW.trod at hx
        rw [ht] at hx
        split at hx
        · rename_i b _; exact ⟨[.bool b], by simp [Sh, ht], RDs.one (.bool _)⟩
        all_goals simp_all
    · rename_i k ht
      obtain ⟨q, rfl, rfl, hw⟩ := DataW.trod_int ht hx
      exact ⟨[.int k q], by simp [Sh, ht, hw], RDs.one (.int _ _)⟩
    · rename_i e ht
      simp only [Bool.and_eq_true, decide_eq_true_eq] at h
      rcases DataW.trod_slice ht hx with ⟨rfl, _⟩ | ⟨a, len, cap, elems, rest, m, rfl, rfl, _, hb, hl, hm, hlen, hel, _, _⟩
      · exact ⟨[.vec []], by simp only [Sh, ht]; exact ⟨[], rfl, by simp, by simp⟩, RDs.one (.vec [] none 0 0 0 1 (fun _ => .nilFunc) (by simp) (by simp) (by simp) (by simp) (by simp))⟩
      · have hall : ∀ i, i < len → ∃ ds cs', w.cells? 0 (a.add (i * P.cellsOf e)) (P.cellsOf e) = some cs' ∧ Sh P n e ds ∧ RDs S0 w ds cs' := by
          intro i hi
          have := hel i hi
          rw [List.getElem?_eq_getElem (by omega)] at this
          obtain ⟨cs', h1, h2⟩ := Option.bind_eq_some_iff.1 this
          obtain ⟨ds, h3, h4⟩ := sh_of_trod hS n h.2 h2
          exact ⟨ds, cs', h1, h3, h4⟩
        have hch : ∀ len : Nat, (∀ i, i < len → ∃ ds cs', w.cells? 0 (a.add (i * P.cellsOf e)) (P.cellsOf e) = some cs' ∧ Sh P n e ds ∧ RDs S0 w ds cs') → ∃ els : List (List D), els.length = len ∧ ∀ i, i < len → ∃ ds cs', els[i]? = some ds ∧ w.cells? 0 (a.add (i * P.cellsOf e)) (P.cellsOf e) = some cs' ∧ Sh P n e ds ∧ RDs S0 w ds cs' := by
          intro len
          induction len with
          | zero => exact fun _ => ⟨[], rfl, by simp⟩
          | succ len ih =>
            intro hall
            obtain ⟨els, he1, he2⟩ := ih (fun i hi => hall i (by omega))
            obtain ⟨ds, cs', h1, h2, h3⟩ := hall len (by omega)
            refine ⟨els ++ [ds], by simp [he1], fun i hi => ?_⟩
            rcases Nat.lt_or_ge i len with hi' | hi'
            · obtain ⟨ds', cs'', g1, g2⟩ := he2 i hi'
              exact ⟨ds', cs'', by rw [List.getElem?_append_left (by omega)]; exact g1, g2⟩
            · have : i = len := by omega
              subst this
              exact ⟨ds, cs', by rw [List.getElem?_append_right (by omega), he1]; simp, h1, h2, h3⟩
        obtain ⟨els, he1, he2⟩ := hch len hall
        have hspot : 0 < len → a = ⟨a.block, a.off, none⟩ := by
          intro h0
          obtain ⟨ds, cs', _, g2, _, _⟩ := he2 0 h0
          obtain ⟨_, g3, g4⟩ := World.cells?_some g2
          have := g4 0 h.1
          rw [List.getElem?_eq_getElem (by omega)] at this
          simp only [Nat.zero_mul, Addr.add, if_true] at this
          unfold World.cell? at this
          split at this
          · split at this
            · simp at this
            · rename_i hs
              cases a; simp_all
          · simp at this
        refine ⟨[.vec (els.map (oneD P e))], ?_, RDs.one ?_⟩
        · simp only [Sh, ht]
          refine ⟨els, rfl, by omega, fun y hy => ?_⟩
          obtain ⟨i, hi⟩ := List.getElem?_of_mem hy
          have hil : i < len := by rw [← he1]; exact (List.getElem?_eq_some_iff.1 hi).1
          obtain ⟨ds, cs', g1, _, g3, _⟩ := he2 i hil
          rw [g1] at hi; cases hi; exact g3
        · have hlen' : len = (els.map (oneD P e)).length := by simp [he1]
          have key : ∀ (i : Nat) (d : D) (k : Nat) (y : D), (els.map (oneD P e))[i]? = some d → d.cells[k]? = some y → ∃ c, w.cell? ⟨a.block, a.off + (i * P.cellsOf e + k), none⟩ = some c ∧ RD S0 w y c := by
            intro i d k y hi hk
            have hil : i < len := by rw [hlen']; exact (List.getElem?_eq_some_iff.1 hi).1
            obtain ⟨ds, cs', g1, g2, g3, g4⟩ := he2 i hil
            rw [List.getElem?_map, g1] at hi
            simp only [Option.map_some, Option.some.injEq] at hi
            subst hi
            rw [oneD_cells g3] at hk
            obtain ⟨_, g5, g6⟩ := World.cells?_some g2
            have hkl : k < ds.length := (List.getElem?_eq_some_iff.1 hk).1
            have hk' : k < cs'.length := by rw [← g4.1]; exact hkl
            have g7 := g6 k (by omega)
            rw [List.getElem?_eq_getElem hk'] at g7
            refine ⟨cs'[k], ?_, g4.2 k y _ hk (List.getElem?_eq_getElem hk')⟩
            have e0 := hspot (by omega)
            rw [e0] at g7
            rw [← g7]
            congr 1
            have hadd : ∀ (x y z : Nat), ((⟨x, y, none⟩ : Addr).add z) = ⟨x, y + z, none⟩ := by
              intro x y z; unfold Addr.add; split
              · rename_i h0; subst h0; rfl
              · rfl
            rw [hadd, hadd, Nat.add_assoc]
          have := RD.vec (S := S0) (w := w) (els.map (oneD P e)) (some a) cap a.block a.off (P.cellsOf e) (fun q => (w.cell? ⟨a.block, a.off + q, none⟩).getD .nilFunc) (by omega) (fun hne => by
              rw [← hspot (by rw [hlen']; exact List.length_pos_iff.2 hne)]) (fun d hd => ?_) (fun i d k y hi hk => ?_) (fun i d k y hi hk => ?_)
          · rw [← hlen'] at this; exact this
          · obtain ⟨y, hy, rfl⟩ := List.mem_map.1 hd
            obtain ⟨i, hi⟩ := List.getElem?_of_mem hy
            have hil : i < len := by rw [← he1]; exact (List.getElem?_eq_some_iff.1 hi).1
            obtain ⟨ds, cs', g1, g2, g3, g4⟩ := he2 i hil
            rw [g1] at hi; cases hi
            rw [oneD_cells g3, g4.1]
            exact (World.cells?_some g2).2.1
          · obtain ⟨c, hc, _⟩ := key i d k y hi hk
            exact ⟨hS _ (World.block_lt_of_cell? w ⟨a.block, a.off + (i * P.cellsOf e + k), none⟩ hc), by simp [hc]⟩
          · obtain ⟨c, hc, hr⟩ := key i d k y hi hk
            simpa [hc] using hr
    · rename_i fs ht
      simp only [Bool.and_eq_true] at h
      obtain ⟨xs, m, rfl, rfl, hcl, hxl, hf⟩ := DataW.trod_struct ht hx
      rw [← hcl] at h
      have := fields_sh (S0 := S0) (w := w) (P := P) (F := Sh P n) fs.toList 0 h.1 (Nat.zero_le _) (fun f hfm _ => by
        obtain ⟨i, hi⟩ := List.getElem?_of_mem hfm
        have h1 := hf i f (by simpa using hi)
        have hil : i < fs.toList.length := (List.getElem?_eq_some_iff.1 hi).1
        rw [List.getElem?_eq_getElem (by rw [hxl]; simpa using hil)] at h1
        exact sh_of_trod hS n (List.all_eq_true.1 h.2 f hfm) h1)
      simp only [Sh, ht]
      simpa using this
    · rename_i m e ht
      simp only [Bool.and_eq_true, beq_iff_eq] at h
      obtain ⟨xs, k, rfl, rfl, hcl, hxl, hf⟩ := DataW.trod_array ht hx
      have hch : ∀ j : Nat, j ≤ m → ∃ els : List (List D), els.length = j ∧ (∀ x ∈ els, Sh P n e x) ∧ RDs S0 w els.flatten (cs.take (j * P.cellsOf e)) := by
        intro j
        induction j with
        | zero => exact fun _ => ⟨[], rfl, by simp, by simpa using RDs.nil⟩
        | succ j ih =>
          intro hj
          obtain ⟨els, he1, he2, he3⟩ := ih (by omega)
          have h1 := hf j (by omega)
          rw [List.getElem?_eq_getElem (by omega)] at h1
          obtain ⟨ds, h3, h4⟩ := sh_of_trod hS n h.2 h1
          refine ⟨els ++ [ds], by simp [he1], fun x hx => ?_, ?_⟩
          · rcases List.mem_append.1 hx with g | g
            · exact he2 x g
            · obtain rfl : x = ds := by simpa using g
              exact h3
          · rw [Nat.succ_mul, List.take_add, List.flatten_append, List.flatten_singleton]
            exact he3.append h4
      obtain ⟨els, he1, he2, he3⟩ := hch m (Nat.le_refl _)
      rw [List.take_of_length_le (by rw [hcl, h.1]; exact Nat.le_refl _)] at he3
      exact ⟨els.flatten, by simp only [Sh, ht]; exact ⟨els, rfl, he1, he2⟩, he3⟩
    · simp at h

theorem okWide_array {m : Nat} {e t : TypeId} {v : Value} {r : Reach} {b0 : Nat} (ht : P.underlying t = some (.array m e)) (h : Value.okWide P w r b0 t v) : ∃ cs, v = .agg cs ∧ cs.size = P.cellsOf t := by
  simp only [Value.okWide, ht] at h
  obtain ⟨cs, h1, h2, _⟩ := h
  exact ⟨cs, h1, h2⟩

theorem shE_of_trod (hS : ∀ B, B < w.heap.size → S0 B) {sp : Nat → Bool} {hd : Bool} {n : Nat} {t : TypeId} {v : Value} {d : DataW H} {ps : List MemPlace} {r : Reach} {b0 : Nat} (hp : plainB P n t = true) (hval : Value.okWide P w r b0 t v)
    (h : DataW.Trod enc P w 0 sp hd t v d ps) : ∃ e, ShE P n t e ∧ RD S0 w e v := by
  obtain ⟨fuel, hf⟩ := h
  obtain ⟨ds, h1, h2⟩ := sh_of_trod hS n hp hf
  refine ⟨_, ⟨ds, h1, rfl⟩, ?_⟩
  cases n with
  | zero => exact h1.elim
  | succ n =>
    simp only [Sh] at h1
    unfold oneD
    split at h1
    · rename_i ht
      obtain ⟨b, rfl⟩ := okWide_bool ht hval
      obtain ⟨b', rfl⟩ := h1
      simp only [ht, List.headD_cons]
      exact h2.2 0 _ _ rfl (by simp [Value.cells])
    · rename_i k ht
      obtain ⟨b, rfl⟩ := okWide_int ht hval
      obtain ⟨b', rfl, _⟩ := h1
      simp only [ht, List.headD_cons]
      exact h2.2 0 _ _ rfl (by simp [Value.cells])
    · rename_i e ht
      obtain ⟨a, len, cap, rfl⟩ := okWide_slice ht hval
      obtain ⟨b', rfl, _⟩ := h1
      simp only [ht, List.headD_cons]
      exact h2.2 0 _ _ rfl (by simp [Value.cells])
    · rename_i fs ht
      obtain ⟨cs, rfl, _⟩ := okWide_struct ht hval
      simp only [ht]
      have := RD.agg (S := S0) (w := w) ds cs.toList (by simpa [Value.cells] using h2.1) (fun i d c hd hc => h2.2 i d c hd (by simpa [Value.cells] using hc))
      simpa using this
    · rename_i m e ht
      obtain ⟨cs, rfl, _⟩ := okWide_array ht hval
      simp only [ht]
      have := RD.agg (S := S0) (w := w) ds cs.toList (by simpa [Value.cells] using h2.1) (fun i d c hd hc => h2.2 i d c hd (by simpa [Value.cells] using hc))
      simpa using this
    · exact h1.elim
end

end Go.Proofs.Ytaejlmengfahnaa.AM

set_option linter.all false
namespace Go.Proofs.Ytaejlmengfahnaa.AM
open Go Go.RowKit Go.ChangeShapes Go.WideShapes Go.ChangeAt

section
variable {H : Type} {enc : TypeId × Value → H} {P : Program}

theorem trodAll_below (hl : laidOutB P = true) {W W' : World} (hb : Below W.heap.size W W') : ∀ {ts : List TypeId} {vs : List Value} {ds : List (DataW H)} {ps : List MemPlace},
    (∀ t ∈ ts, P.readableRec t = true ∧ t < P.types.size) → DataW.TrodAll enc P W 0 (fun _ => true) true ts vs ds ps → (∀ x ∈ ps, x.block < W.heap.size) →
    DataW.TrodAll enc P W' 0 (fun b => decide (b < W.heap.size)) true ts vs ds ps
  | [], vs, ds, ps, _, h, _ => by
    obtain ⟨rfl, rfl, rfl⟩ := trodAll_nil h
    rfl
  | t :: ts, vs, ds, ps, hts, h, hlt => by
    obtain ⟨v, vs', d, ds', p, q, rfl, rfl, rfl, h1, h2⟩ := trodAll_cons h
    exact ⟨p, q, Below.trod hl (hts t (by simp)).1 (hts t (by simp)).2 h1 hb (fun x hx => hlt x (by simp [hx])), trodAll_below hl hb (fun u hu => hts u (by simp [hu])) h2 (fun x hx => hlt x (by simp [hx])), rfl⟩

theorem law_calls {f : Nat} {fn : Func} {s : ChangeSpec} {W : World} {args : Array Value} {ds gs : List (DataW H)} {before : List MemPlace} {dsl : List D} {t : TypeId}
    (hC : CSpec P f dsl (.bool true)) (hrel : RDs (fun B => B < W.heap.size) W dsl args.toList) (hW : DataW.Whole enc P fn.params.toList s.vars false W args.toList ds gs before)
    (hl : laidOutB P = true) (hts : ∀ t ∈ fn.params.toList, P.readableRec t = true ∧ t < P.types.size) (hv : s.vars = [])
    (hres : (s.fn H (ds ++ gs)).results = [.lit (.bool true)]) (hargs : (s.fn H (ds ++ gs)).args = ds) (hvars : (s.fn H (ds ++ gs)).vars = [])
    (hrt : fn.resultTypes = #[t]) (ht : P.underlying t = some .bool) :
    Calls P f args W fun e W' => ∃ v, e = .returned v ∧ s.post enc P fn false true false false W args v W' := by
  refine (hC.2 (fun B => B < W.heap.size) W args.toList (fun B hB => hB) hrel.1 hrel.2).mono ?_
  rintro e W' ⟨c, S', rfl, hr, _, hk⟩
  cases hr
  have hb : Below W.heap.size W W' := ⟨hk.os, hk.tape, hk.output, hk.size, fun B hB => hk.block B hB id⟩
  refine ⟨_, rfl, ds, gs, before, [], before, [], hW, ?_, ?_, ?_, hb.frame _, fun h => by cases h⟩
  · rw [hres, hrt]
    exact trodAll_mk1 ⟨1, by simp [DataW.trod, Value.cells, ht]⟩
  · rw [hargs]
    obtain ⟨p, q, h1, h2, rfl, hz, hn⟩ := id hW
    rw [hv] at h2
    obtain ⟨rfl, rfl⟩ := trodVars_none h2
    rw [List.append_nil]
    exact trodAll_below hl hb hts h1 (fun x hx => hW.lt x (by simpa using hx))
  · rw [hvars, hv]; rfl
end

end Go.Proofs.Ytaejlmengfahnaa.AM

set_option linter.all false
namespace Go.Proofs.Ytaejlmengfahnaa.AM
open Go Go.RowKit Go.ChangeShapes Go.WideShapes Go.ChangeAt

theorem shE_int {P : Program} {n t : Nat} {k : IntKind} {d : D} (ht : P.underlying t = some (.int k)) (h : ShE P (n + 1) t d) : ∃ x, d = .int k x ∧ k.min ≤ x ∧ x ≤ k.max := by
  obtain ⟨ds, h1, rfl⟩ := h
  simp only [Sh, ht] at h1
  obtain ⟨x, rfl, hw⟩ := h1
  exact ⟨x, by simp [oneD, ht], by simpa [Lit.wf] using hw⟩

theorem shE_ints {P : Program} {n t e : Nat} {k : IntKind} {d : D} (ht : P.underlying t = some (.slice e)) (he : P.underlying e = some (.int k)) (h : ShE P (n + 2) t d) :
    ∃ xs : List Int, d = .vec (xs.map (D.int k)) ∧ xs.length ≤ maxLen ∧ ∀ x ∈ xs, k.min ≤ x ∧ x ≤ k.max := by
  obtain ⟨ds, h1, rfl⟩ := h
  simp only [Sh, ht] at h1
  obtain ⟨els, rfl, hl, hw⟩ := h1
  simp only [he] at hw
  have : ∀ els : List (List D), (∀ x ∈ els, ∃ y, x = [D.int k y] ∧ (Lit.int k y).wf = true) → ∃ xs : List Int, xs.length = els.length ∧ els.map (oneD P e) = xs.map (D.int k) ∧ ∀ x ∈ xs, k.min ≤ x ∧ x ≤ k.max := by
    intro els
    induction els with
    | nil => exact fun _ => ⟨[], rfl, rfl, by simp⟩
    | cons a r ih =>
      intro h
      obtain ⟨y, rfl, hy⟩ := h a (by simp)
      obtain ⟨xs, h1, h2, h3⟩ := ih (fun x hx => h x (by simp [hx]))
      refine ⟨y :: xs, by simp [h1], by simp [h2, oneD, he], ?_⟩
      intro x hx
      rcases List.mem_cons.1 hx with rfl | hx
      · simpa [Lit.wf] using hy
      · exact h3 x hx
  obtain ⟨xs, h1, h2, h3⟩ := this els hw
  exact ⟨xs, by simp [oneD, ht, h2], by omega, h3⟩

end Go.Proofs.Ytaejlmengfahnaa.AM

set_option linter.all false
namespace Go.Proofs.Ytaejlmengfahnaa.AM
open Go Go.RowKit

mutual
def V.ren (ρ : Nat → Nat) : V → V
  | .d x => .d x
  | .nils => .nils
  | .ptr id i j => .ptr (ρ id) i j
  | .own id off len => .own (ρ id) off len
  | .full id off len c => .full (ρ id) off len c
  | .agg vs => .agg (renL ρ vs)
  | .tuple vs => .tuple (renL ρ vs)
  | .func f vs => .func f (renL ρ vs)
def renL (ρ : Nat → Nat) : List V → List V
  | [] => []
  | v :: r => V.ren ρ v :: renL ρ r
end

inductive Ren (ρ : Nat → Nat) (H' : Heap) : V → V → Prop
  | same (v : V) : Ren ρ H' v (v.ren ρ)
  | undef (v : V) : Ren ρ H' (.d .undef) v
  | nils (id sz : Nat) : hget H' id = .dat false sz [] → Ren ρ H' (.own id 0 0) .nils

inductive RenL (ρ : Nat → Nat) (H' : Heap) : List V → List V → Prop
  | nil : RenL ρ H' [] []
  | cons {v' v : V} {r' r : List V} : Ren ρ H' v' v → RenL ρ H' r' r → RenL ρ H' (v' :: r') (v :: r)

inductive RenB (ρ : Nat → Nat) (H H' : Heap) (i : Nat) : Prop
  | box (fz : Bool) (cells cells' : List V) : hget H' i = .box fz cells' → hget H (ρ i) = .box fz cells → RenL ρ H' cells' cells → RenB ρ H H' i
  | dat (fz : Bool) (sz : Nat) (els : List D) : hget H' i = .dat fz sz els → hget H (ρ i) = .dat fz sz els → RenB ρ H H' i
  | virt (sz : Nat) : hget H' i = .dat false sz [] → hget H (ρ i) = .unborn → RenB ρ H H' i
  | dead : hget H' i = .dead → RenB ρ H H' i

section
variable {C : Ctx} {φ : Nat → Option Loc} {S : Nat → Prop} {H H' : Heap} {w : World} {T T' : Tmps} {a : Act} {ρ : Nat → Nat}

def φren (φ : Nat → Option Loc) (ρ : Nat → Nat) (H' : Heap) : Nat → Option Loc := fun i =>
  match hget H' i with
  | .unborn | .dead => none
  | _ => φ (ρ i)

theorem RenL.length {vs' vs : List V} (h : RenL ρ H' vs' vs) : vs'.length = vs.length := by
  induction h with
  | nil => rfl
  | cons _ _ ih => simp [ih]

theorem RenL.get {vs' vs : List V} (h : RenL ρ H' vs' vs) : ∀ (i : Nat) (v' v : V), vs'[i]? = some v' → vs[i]? = some v → Ren ρ H' v' v := by
  induction h with
  | nil => intro i v' v h; simp at h
  | cons h1 _ ih =>
    intro i v' v hv' hv
    cases i with
    | zero => simp at hv' hv; subst hv'; subst hv; exact h1
    | succ i => exact ih i v' v (by simpa using hv') (by simpa using hv)

mutual
theorem RV.ren (hB : ∀ i, hget H' i ≠ .unborn → RenB ρ H H' i) (hU : ∀ i, hget H' i = .unborn → hget H (ρ i) = .unborn) : ∀ (v : V) (c : Value), RV φ S H w (v.ren ρ) c → RV (φren φ ρ H') S H' w v c
  | .d x, c, h => by cases h with | d _ _ h => exact .d x c h
  | .nils, c, h => by cases h; exact .nils
  | .ptr id i j, c, h => by
    simp only [V.ren] at h
    cases h with | ptr _ _ _ A hu hh =>
      have hne : hget H' id ≠ .unborn := fun e => hu (hU id e)
      refine .ptr id i j A hne (fun sz hw => ?_)
      rcases hB id hne with ⟨fz, cells, cells', h1, h2, h3⟩ | ⟨fz, s, els, h1, h2⟩ | ⟨s, h1, h2⟩ | h1
      · have : (hget H (ρ id)).width = some sz := by rw [h2]; rw [h1] at hw; simp [Blk.width] at hw ⊢; rw [← h3.length]; exact hw
        simpa [φren, h1] using hh sz this
      · have : (hget H (ρ id)).width = some sz := by rw [h2]; rw [h1] at hw; exact hw
        simpa [φren, h1] using hh sz this
      · exact absurd h2 hu
      · rw [h1] at hw; simp [Blk.width] at hw
  | .own id off len, c, h => by
    simp only [V.ren] at h
    cases h with | own _ _ _ l cap A hu hh =>
      have hne : hget H' id ≠ .unborn := fun e => hu (hU id e)
      refine .own id off len l cap A hne (fun fz sz els hg => ?_)
      rcases hB id hne with ⟨fz', cells, cells', h1, h2, h3⟩ | ⟨fz', s, els', h1, h2⟩ | ⟨s, h1, h2⟩ | h1
      · rw [h1] at hg; cases hg
      · rw [h1] at hg; cases hg
        simpa [φren, h1] using hh _ _ _ h2
      · exact absurd h2 hu
      · rw [h1] at hg; cases hg
  | .full id off len k, c, h => by
    simp only [V.ren] at h
    cases h with | full _ _ _ _ A hu hh =>
      have hne : hget H' id ≠ .unborn := fun e => hu (hU id e)
      refine .full id off len k A hne (fun fz sz els hg => ?_)
      rcases hB id hne with ⟨fz', cells, cells', h1, h2, h3⟩ | ⟨fz', s, els', h1, h2⟩ | ⟨s, h1, h2⟩ | h1
      · rw [h1] at hg; cases hg
      · rw [h1] at hg; cases hg
        simpa [φren, h1] using hh _ _ _ h2
      · exact absurd h2 hu
      · rw [h1] at hg; cases hg
  | .agg vs, c, h => by
    simp only [V.ren] at h
    cases h with | agg _ cs hl hh =>
      obtain ⟨q1, q2⟩ := RVs.ren hB hU vs cs ⟨hl, hh⟩
      exact .agg vs cs q1 q2
  | .tuple vs, c, h => by
    simp only [V.ren] at h
    cases h with | tuple _ cs hl hh =>
      obtain ⟨q1, q2⟩ := RVs.ren hB hU vs cs ⟨hl, hh⟩
      exact .tuple vs cs q1 q2
  | .func f vs, c, h => by
    simp only [V.ren] at h
    cases h with | func _ _ cs hl hh =>
      obtain ⟨q1, q2⟩ := RVs.ren hB hU vs cs ⟨hl, hh⟩
      exact .func f vs cs q1 q2
theorem RVs.ren (hB : ∀ i, hget H' i ≠ .unborn → RenB ρ H H' i) (hU : ∀ i, hget H' i = .unborn → hget H (ρ i) = .unborn) : ∀ (vs : List V) (cs : List Value), RVs φ S H w (renL ρ vs) cs → RVs (φren φ ρ H') S H' w vs cs
  | [], cs, h => by
    have : cs = [] := List.eq_nil_of_length_eq_zero (by have := h.len; simpa [renL] using this.symm)
    subst this; exact .nil
  | v :: r, cs, h => by
    cases cs with
    | nil => have := h.len; simp [renL] at this
    | cons c cs =>
      have h0 := h.at_ 0 (v.ren ρ) c (by simp [renL]) rfl
      exact .cons (RV.ren hB hU v c h0) (RVs.ren hB hU r cs ⟨by have := h.len; simpa [renL] using this, fun i x y hx hy => h.at_ (i + 1) x y (by simpa [renL] using hx) (by simpa using hy)⟩)
end

theorem RV.renR (hB : ∀ i, hget H' i ≠ .unborn → RenB ρ H H' i) (hU : ∀ i, hget H' i = .unborn → hget H (ρ i) = .unborn) {v' v : V} {c : Value} (hr : Ren ρ H' v' v) (h : RV φ S H w v c) : RV (φren φ ρ H') S H' w v' c := by
  cases hr with
  | same => exact RV.ren hB hU v' c h
  | undef => exact .d _ _ (.undef _)
  | nils id sz hg =>
    cases h
    refine .own id 0 0 0 0 none (by rw [hg]; simp) (fun fz s els hg' => ?_)
    rw [hg] at hg'; cases hg'
    exact ⟨by simp, rfl, Nat.le_refl _, .inl rfl⟩

theorem Weak.ren_heap (hH : HRel C φ S H w) (hB : ∀ i, hget H' i ≠ .unborn → RenB ρ H H' i) (hU : ∀ i, hget H' i = .unborn → hget H (ρ i) = .unborn)
    (hinj : ∀ i j, hget H' i ≠ .unborn → hget H' j ≠ .unborn → ρ i = ρ j → hget H (ρ i) ≠ .unborn → i = j) : HRel C (φren φ ρ H') S H' w := by
  refine ⟨hH.n0, ?_, hH.vis, ?_, ?_, hH.low⟩
  · intro i L h
    simp only [φren] at h
    split at h
    · cases h
    · cases h
    · exact hH.own _ L h
  · intro i j L L' h h' e
    have hi : hget H' i ≠ .unborn := fun e => by simp [φren, e] at h
    have hj : hget H' j ≠ .unborn := fun e => by simp [φren, e] at h'
    have key : ∀ {k : Nat} {M : Loc}, φren φ ρ H' k = some M → φ (ρ k) = some M := fun {k M} hk => by
      simp only [φren] at hk
      split at hk
      · cases hk
      · cases hk
      · exact hk
    have he := hH.inj _ _ L L' (key h) (key h') e
    refine hinj i j hi hj he (fun hu => ?_)
    have := hH.blk (ρ i); rw [hu] at this; simp only [BR] at this; have h2 := key h; rw [this] at h2; cases h2
  · intro i
    by_cases hu : hget H' i = .unborn
    · rw [hu]; simp [BR, φren, hu]
    rcases hB i hu with ⟨fz, cells, cells', h1, h2, h3⟩ | ⟨fz, sz, els, h1, h2⟩ | ⟨sz, h1, h2⟩ | h1
    · rw [h1]
      have hb := hH.blk (ρ i)
      rw [h2] at hb
      obtain ⟨L, cs, t, g1, g2, g3, g4, g5, g6⟩ := hb
      refine ⟨L, cs, t, by simp [φren, h1, g1], g2, g3, by rw [h3.length]; exact g4, fun k v' c hk hc => ?_, g6⟩
      have hk' : k < cells.length := by rw [← h3.length]; exact (List.getElem?_eq_some_iff.1 hk).1
      exact RV.renR hB hU (h3.get k v' _ hk (List.getElem?_eq_getElem hk')) (g5 k _ c (List.getElem?_eq_getElem hk') hc)
    · rw [h1]
      have hb := hH.blk (ρ i)
      rw [h2] at hb
      rcases hb with ⟨g1, g2⟩ | ⟨L, cs, t, g1, g2⟩
      · exact .inl ⟨g1, by simp [φren, h1, g2]⟩
      · exact .inr ⟨L, cs, t, by simp [φren, h1, g1], g2⟩
    · rw [h1]
      have hb := hH.blk (ρ i)
      rw [h2] at hb
      exact .inl ⟨rfl, by simp only [φren, h1]; exact hb⟩
    · rw [h1]; simp [BR, φren, h1]

theorem Weak.ren (ρ : Nat → Nat) (hT : ∀ t, Ren ρ H' (tget T' t) (tget T t)) (hB : ∀ i, hget H' i ≠ .unborn → RenB ρ H H' i) (hU : ∀ i, hget H' i = .unborn → hget H (ρ i) = .unborn)
    (hinj : ∀ i j, hget H' i ≠ .unborn → hget H' j ≠ .unborn → ρ i = ρ j → hget H (ρ i) ≠ .unborn → i = j) : Weak 0 T H T' H' := by
  intro C φ S w a hH hT0
  exact ⟨φren φ ρ H', S, Weak.ren_heap hH hB hU hinj, fun t => RV.renR hB hU (hT t) (hT0 t), ⟨.refl _ _, Nat.le_refl _, fun id h => by omega⟩⟩

end
end Go.Proofs.Ytaejlmengfahnaa.AM

set_option linter.all false
namespace Go.Proofs.Ytaejlmengfahnaa.AM
open Go Go.RowKit

def fieldsOf (P : Program) : List Field → Option (List (Nat × Nat))
  | [] => some []
  | f :: r => match P.info? f.type, fieldsOf P r with
    | some j, some rest => some ((f.offset, j.size) :: rest)
    | _, _ => none

def shapeOf (P : Program) : TypeDesc → Shape
  | .slice e => .slice e
  | .array n e => .array n e
  | .struct fields => match fieldsOf P fields.toList with
    | some fs => .struct fs
    | none => .other
  | .int k => .int k
  | .bool => .bool
  | .map kt _ => match P.underlying kt with
    | some (.int .i64) => .map64
    | _ => .other
  | _ => .other

def cmpFields (P : Program) : Nat → List Field → Option (List Bool)
  | _, [] => some []
  | i, f :: r => match cmpFields P (i + 1) r with
    | some rest => if f.name != "_" && f.offset == i then (match P.underlying f.type with
      | some (.int _) => some (false :: rest)
      | some .bool => some (true :: rest)
      | _ => none) else none
    | none => none

def cmpOf (P : Program) (t : Nat) (d : TypeDesc) : List Bool :=
  match d with
  | .struct fields => if !P.eqGuardType P.depth t && !P.stoodInHeld t then (match cmpFields P 0 fields.toList with
    | some l => l
    | none => []) else []
  | _ => []

def envOf (P : Program) : Env := fun t =>
  match P.info? t, P.underlying t with
  | some i, some d => match i.zero with
    | some z => if z.cells.size = i.size then some { agg := aggDesc d, cmp := cmpOf P t d, size := i.size, bytes := i.bytes, shape := shapeOf P d, zero := z.cells.toList.map ofVal } else none
    | none => none
  | _, _ => none

section
variable {P : Program}

theorem fieldsOf_ok : ∀ (fields : List Field) (fs : List (Nat × Nat)), fieldsOf P fields = some fs → fs.length = fields.length ∧ ∀ (i : Nat) (f : Field), fields[i]? = some f → ∃ j, P.info? f.type = some j ∧ fs[i]? = some (f.offset, j.size)
  | [], fs, h => by simp [fieldsOf] at h; subst h; exact ⟨rfl, fun i f h => by simp at h⟩
  | f :: r, fs, h => by
    simp only [fieldsOf] at h
    split at h
    · rename_i j rest hj hr
      simp at h; subst h
      obtain ⟨h1, h2⟩ := fieldsOf_ok r rest hr
      refine ⟨by simp [h1], fun i g hg => ?_⟩
      cases i with
      | zero => simp at hg; subst hg; exact ⟨j, hj, rfl⟩
      | succ i => exact h2 i g (by simpa using hg)
    · cases h

theorem shapeOf_ok (d : TypeDesc) : ShapeOk P d (shapeOf P d) := by
  unfold shapeOf
  split
  · rfl
  · rfl
  · split
    · rename_i fs hfs
      obtain ⟨h1, h2⟩ := fieldsOf_ok _ _ hfs
      exact ⟨_, rfl, by simpa using h1, fun i f hf => h2 i f (by simpa using hf)⟩
    · trivial
  · rfl
  · rfl
  · split
    · rename_i h; exact ⟨_, _, rfl, h⟩
    · trivial
  · trivial

theorem cmpFields_ok : ∀ (fields : List Field) (n : Nat) (l : List Bool), cmpFields P n fields = some l → fields.length = l.length ∧
    ∀ (i : Nat) (f : Field), fields[i]? = some f → f.name ≠ "_" ∧ f.offset = n + i ∧ ((l[i]? = some false ∧ ∃ k, P.underlying f.type = some (.int k)) ∨ (l[i]? = some true ∧ P.underlying f.type = some .bool))
  | [], n, l, h => by simp [cmpFields] at h; subst h; exact ⟨rfl, fun i f h => by simp at h⟩
  | f :: r, n, l, h => by
    simp only [cmpFields] at h
    split at h
    · rename_i rest hr
      obtain ⟨h1, h2⟩ := cmpFields_ok r (n + 1) rest hr
      split at h
      · rename_i hc
        simp only [Bool.and_eq_true, bne_iff_ne, beq_iff_eq] at hc
        have tail : ∀ b, (f :: r).length = (b :: rest).length ∧ ((f.name ≠ "_" ∧ f.offset = n + 0 ∧ (((b :: rest)[0]? = some false ∧ ∃ k, P.underlying f.type = some (.int k)) ∨ ((b :: rest)[0]? = some true ∧ P.underlying f.type = some .bool))) →
            ∀ (i : Nat) (g : Field), (f :: r)[i]? = some g → g.name ≠ "_" ∧ g.offset = n + i ∧ (((b :: rest)[i]? = some false ∧ ∃ k, P.underlying g.type = some (.int k)) ∨ ((b :: rest)[i]? = some true ∧ P.underlying g.type = some .bool))) := fun b => by
          refine ⟨by simp [h1], fun h0 i g hg => ?_⟩
          cases i with
          | zero => simp at hg; subst hg; exact h0
          | succ i =>
            obtain ⟨q1, q2, q3⟩ := h2 i g (by simpa using hg)
            exact ⟨q1, by omega, by simpa using q3⟩
        split at h
        · rename_i k hk
          simp at h; subst h
          exact ⟨(tail false).1, (tail false).2 ⟨hc.1, by omega, .inl ⟨rfl, k, hk⟩⟩⟩
        · rename_i hk
          simp at h; subst h
          exact ⟨(tail true).1, (tail true).2 ⟨hc.1, by omega, .inr ⟨rfl, hk⟩⟩⟩
        · cases h
      · cases h
    · cases h

theorem cmpOf_ok {t : Nat} {d : TypeDesc} (h : cmpOf P t d ≠ []) : CmpOk P t d (cmpOf P t d) := by
  unfold cmpOf at h ⊢
  split at h
  · rename_i fields
    split at h
    · rename_i hc
      simp only [Bool.and_eq_true, Bool.not_eq_true'] at hc
      rw [if_pos (by simp [hc.1, hc.2])]
      split at h
      · rename_i l hl
        obtain ⟨h1, h2⟩ := cmpFields_ok _ _ _ hl
        refine ⟨hc.1, hc.2, fields, rfl, by simpa [hl] using h1, fun i f hf => ?_⟩
        obtain ⟨q1, q2, q3⟩ := h2 i f (by simpa using hf)
        exact ⟨q1, by omega, by simpa [hl] using q3⟩
      · exact absurd rfl h
    · exact absurd rfl h
  · exact absurd rfl h

theorem envOf_ok : EOk P (envOf P) := by
  intro t ti h
  unfold envOf at h
  split at h
  · rename_i i d hi hd
    split at h
    · rename_i z hz
      split at h
      · rename_i hs
        simp at h; subst h
        exact ⟨i, z, d, hi, rfl, rfl, hz, rfl, hs, hd, rfl, shapeOf_ok d, cmpOf_ok⟩
      · cases h
    · cases h
  · cases h

end
end Go.Proofs.Ytaejlmengfahnaa.AM

set_option linter.all false
namespace Go.Proofs.Ytaejlmengfahnaa.AM
open Go Go.RowKit

def acall (P : Program) (n : Nat) (f : Nat) (vs : List V) (dst : Option Nat) (T : Tmps) (H : Heap) (K : Tmps → Heap → Prop) : Prop :=
  ∃ Qf, NSpec P f vs H Qf ∧ ∀ r H', Qf r H' → K (tput n T dst r) H'

theorem acall_r {P : Program} {n f : Nat} {vs : List V} {dst : Option Nat} {T : Tmps} {H : Heap} {K : Tmps → Heap → Prop} {r : V} {H' : Heap} (h : RSpec P f vs H r H') (hK : K (tput n T dst r) H') : acall P n f vs dst T H K :=
  ⟨_, h.n, fun a b ⟨e1, e2⟩ => by subst e1; subst e2; exact hK⟩

def dcall (P : Program) (f : Nat) (vs : List V) (H : Heap) (nid : Nat) (K : V → Blk → Prop) : Prop :=
  ∃ v b, DSpec P f vs H nid v b ∧ K v b

def wloop (P : Program) (E : Env) (n m : Nat) (x : Code) (T : Tmps) (H : Heap) (Q : Ex → Tmps → Heap → Prop) : Prop := ∃ T' H', Weak m T H T' H' ∧ ∃ k, aloop m (awp P E n m x) Q k T' H'

def wdraw (P : Program) (E : Env) (n m : Nat) (ops : List Oper) (T : Tmps) (H : Heap) (Q : Tmps → Heap → Prop) : Prop :=
  ∃ T' H', Weak m T H T' H' ∧ ∃ T2 ops', PermOf E n H' T' ops T2 ops' ∧ ∃ plan, planOk ops' plan = true ∧ drun P E n ops' 0 H'.length 0 ops' plan T2 H' Q

def afin (E : Env) (rs : List ResultVar) (r : D) (T : Tmps) (H : Heap) : Prop := ∃ v, resOf E T H rs = some v ∧ xport H 40 v = some r

def evK (r : Res) (n : Nat) (T : Tmps) (dst : Option Nat) (H : Heap) (K : Tmps → Heap → Prop) : Prop :=
  match r with
  | some (p, v, ch) => p ∧ K (tput n T dst v) (ch.on H H.length)
  | none => False

def nilK (q : Option (Bool × Prop × Prop)) (n : Nat) (T : Tmps) (dst : Option Nat) (H : Heap) (K : Tmps → Heap → Prop) (r : Res) : Prop :=
  match q with
  | some (b, pt, pf) => (pt → K (tput n T dst (.d (.bool b))) H) ∧ (pf → K (tput n T dst (.d (.bool !b))) H)
  | none => match r with
    | some (p, v, ch) => p ∧ K (tput n T dst v) (ch.on H H.length)
    | none => False

def devK (r : Res) (K : V → Blk → Prop) : Prop :=
  match r with
  | some (p, v, .no) => p ∧ K v .dead
  | some (p, v, .new b) => p ∧ K v b
  | _ => False

section
variable {P : Program} {E : Env} {n m : Nat} {H : Heap} {T : Tmps} {p : Nat × V} {Q : Ex → Tmps → Heap → Prop} {QT K : Tmps → Heap → Prop} {DK : V → Blk → Prop}

theorem z2p : awp P E n m .skip T H Q = Q .normal T H := rfl
theorem z2q {l} : awp P E n m (.label l) T H Q = Q .normal T H := rfl
theorem z2r {i} : awp P E n m (.exit i) T H Q = Q (.exit i) T H := rfl
theorem z2s : awp P E n m .ret T H Q = Q .ret T H := rfl
def kseq (P : Program) (E : Env) (n m : Nat) (y : Code) (Q : Ex → Tmps → Heap → Prop) : Ex → Tmps → Heap → Prop := fun e T' H' => match e with
    | .normal => awp P E n m y T' H' Q
    | e => Q e T' H'
def kblock (i : Nat) (Q : Ex → Tmps → Heap → Prop) : Ex → Tmps → Heap → Prop := fun e T' H' => match e with
    | .exit j => if j = i then Q .normal T' H' else Q (.exit j) T' H'
    | e => Q e T' H'
theorem z2t {x y} : awp P E n m (.seq x y) T H Q = awp P E n m x T H (kseq P E n m y Q) := rfl
theorem z2u {y} : kseq P E n m y Q .normal T H = awp P E n m y T H Q := rfl
theorem z2v {y i} : kseq P E n m y Q (.exit i) T H = Q (.exit i) T H := rfl
theorem z2w {y} : kseq P E n m y Q .ret T H = Q .ret T H := rfl
theorem z2x {i} : kblock i Q .normal T H = Q .normal T H := rfl
theorem z2y {i j} : kblock i Q (.exit j) T H = if j = i then Q .normal T H else Q (.exit j) T H := rfl
theorem z2z {i} : kblock i Q .ret T H = Q .ret T H := rfl
theorem z30 {i x} : awp P E n m (.block i x) T H Q = awp P E n m x T H (kblock i Q) := rfl
theorem z31 {i ops} : awp P E n m (.region i ops false) T H Q = aops P E n ops.toList ops.toList T H (Q .normal) := rfl
theorem z32 {i ops} : awp P E n m (.region i ops true) T H Q = wdraw P E n m ops.toList T H (Q .normal) := rfl
theorem z33 {c x y} : awp P E n m (.cond c x y) (p :: T) H Q = (match ev (p :: T) c with
    | .d (.bool b) => if b = true then awp P E n m x (told c true (p :: T)) H Q else awp P E n m y (told c false (p :: T)) H Q
    | _ => False) := rfl
theorem z34 {x} : awp P E n m (.loop x) T H Q = wloop P E n m x T H Q := rfl

theorem z00 {all} : aops P E n all [] (p :: T) H QT = QT (p :: T) H := rfl
theorem z01 {all} : aops P E n all [] [] H QT = QT [] H := rfl
theorem z02 {all dst ty pos after rest x} : aops P E n all ({ dst := dst, op := .move x, type := ty, pos := pos, after := after, guard := none } :: rest) (p :: T) H QT =
  evK (evop E (p :: T) H H.length (.move x)) n (p :: T) dst H (fun T' H' => aops P E n all rest T' H' QT) := rfl
theorem z03 {all dst ty pos after rest x} : aops P E n all ({ dst := dst, op := .move x, type := ty, pos := pos, after := after, guard := none } :: rest) [] H QT =
  evK (evop E [] H H.length (.move x)) n [] dst H (fun T' H' => aops P E n all rest T' H' QT) := rfl
theorem z04 {dst ty pos after g x} : astep P E n { dst := dst, op := .move x, type := ty, pos := pos, after := after, guard := g } (p :: T) H K = evK (evop E (p :: T) H H.length (.move x)) n (p :: T) dst H K := rfl
theorem z05 {dst ty pos after g nid x} : dstep P E { dst := dst, op := .move x, type := ty, pos := pos, after := after, guard := g } (p :: T) H nid DK = devK (evop E (p :: T) H nid (.move x)) DK := rfl
theorem z06 {all dst ty pos after rest x} : aops P E n all ({ dst := dst, op := .assign x, type := ty, pos := pos, after := after, guard := none } :: rest) (p :: T) H QT =
  evK (evop E (p :: T) H H.length (.assign x)) n (p :: T) dst H (fun T' H' => aops P E n all rest T' H' QT) := rfl
theorem z07 {all dst ty pos after rest x} : aops P E n all ({ dst := dst, op := .assign x, type := ty, pos := pos, after := after, guard := none } :: rest) [] H QT =
  evK (evop E [] H H.length (.assign x)) n [] dst H (fun T' H' => aops P E n all rest T' H' QT) := rfl
theorem z08 {dst ty pos after g x} : astep P E n { dst := dst, op := .assign x, type := ty, pos := pos, after := after, guard := g } (p :: T) H K = evK (evop E (p :: T) H H.length (.assign x)) n (p :: T) dst H K := rfl
theorem z09 {dst ty pos after g nid x} : dstep P E { dst := dst, op := .assign x, type := ty, pos := pos, after := after, guard := g } (p :: T) H nid DK = devK (evop E (p :: T) H nid (.assign x)) DK := rfl
theorem z0a {all dst ty pos after rest c x y} : aops P E n all ({ dst := dst, op := .pick c x y, type := ty, pos := pos, after := after, guard := none } :: rest) (p :: T) H QT =
  evK (evop E (p :: T) H H.length (.pick c x y)) n (p :: T) dst H (fun T' H' => aops P E n all rest T' H' QT) := rfl
theorem z0b {all dst ty pos after rest c x y} : aops P E n all ({ dst := dst, op := .pick c x y, type := ty, pos := pos, after := after, guard := none } :: rest) [] H QT =
  evK (evop E [] H H.length (.pick c x y)) n [] dst H (fun T' H' => aops P E n all rest T' H' QT) := rfl
theorem z0c {dst ty pos after g c x y} : astep P E n { dst := dst, op := .pick c x y, type := ty, pos := pos, after := after, guard := g } (p :: T) H K = evK (evop E (p :: T) H H.length (.pick c x y)) n (p :: T) dst H K := rfl
theorem z0d {dst ty pos after g nid c x y} : dstep P E { dst := dst, op := .pick c x y, type := ty, pos := pos, after := after, guard := g } (p :: T) H nid DK = devK (evop E (p :: T) H nid (.pick c x y)) DK := rfl
theorem z0e {all dst ty pos after rest u t x} : aops P E n all ({ dst := dst, op := .unOp u t x, type := ty, pos := pos, after := after, guard := none } :: rest) (p :: T) H QT =
  evK (evop E (p :: T) H H.length (.unOp u t x)) n (p :: T) dst H (fun T' H' => aops P E n all rest T' H' QT) := rfl
theorem z0f {all dst ty pos after rest u t x} : aops P E n all ({ dst := dst, op := .unOp u t x, type := ty, pos := pos, after := after, guard := none } :: rest) [] H QT =
  evK (evop E [] H H.length (.unOp u t x)) n [] dst H (fun T' H' => aops P E n all rest T' H' QT) := rfl
theorem z0g {dst ty pos after g u t x} : astep P E n { dst := dst, op := .unOp u t x, type := ty, pos := pos, after := after, guard := g } (p :: T) H K = evK (evop E (p :: T) H H.length (.unOp u t x)) n (p :: T) dst H K := rfl
theorem z0h {dst ty pos after g nid u t x} : dstep P E { dst := dst, op := .unOp u t x, type := ty, pos := pos, after := after, guard := g } (p :: T) H nid DK = devK (evop E (p :: T) H nid (.unOp u t x)) DK := rfl
theorem z0i {all dst ty pos after rest b t x y t'} : aops P E n all ({ dst := dst, op := .binOp b t x y t', type := ty, pos := pos, after := after, guard := none } :: rest) (p :: T) H QT =
  nilK (nilTest E (p :: T) (.binOp b t x y t')) n (p :: T) dst H (fun T' H' => aops P E n all rest T' H' QT) (evop E (p :: T) H H.length (.binOp b t x y t')) := rfl
theorem z0j {all dst ty pos after rest b t x y t'} : aops P E n all ({ dst := dst, op := .binOp b t x y t', type := ty, pos := pos, after := after, guard := none } :: rest) [] H QT =
  nilK (nilTest E [] (.binOp b t x y t')) n [] dst H (fun T' H' => aops P E n all rest T' H' QT) (evop E [] H H.length (.binOp b t x y t')) := rfl
theorem z0k {dst ty pos after g b t x y t'} : astep P E n { dst := dst, op := .binOp b t x y t', type := ty, pos := pos, after := after, guard := g } (p :: T) H K = nilK (nilTest E (p :: T) (.binOp b t x y t')) n (p :: T) dst H K (evop E (p :: T) H H.length (.binOp b t x y t')) := rfl
theorem z0l {dst ty pos after g nid b t x y t'} : dstep P E { dst := dst, op := .binOp b t x y t', type := ty, pos := pos, after := after, guard := g } (p :: T) H nid DK = devK (evop E (p :: T) H nid (.binOp b t x y t')) DK := rfl
theorem z0m {all dst ty pos after rest x i} : aops P E n all ({ dst := dst, op := .extract x i, type := ty, pos := pos, after := after, guard := none } :: rest) (p :: T) H QT =
  evK (evop E (p :: T) H H.length (.extract x i)) n (p :: T) dst H (fun T' H' => aops P E n all rest T' H' QT) := rfl
theorem z0n {all dst ty pos after rest x i} : aops P E n all ({ dst := dst, op := .extract x i, type := ty, pos := pos, after := after, guard := none } :: rest) [] H QT =
  evK (evop E [] H H.length (.extract x i)) n [] dst H (fun T' H' => aops P E n all rest T' H' QT) := rfl
theorem z0o {dst ty pos after g x i} : astep P E n { dst := dst, op := .extract x i, type := ty, pos := pos, after := after, guard := g } (p :: T) H K = evK (evop E (p :: T) H H.length (.extract x i)) n (p :: T) dst H K := rfl
theorem z0p {dst ty pos after g nid x i} : dstep P E { dst := dst, op := .extract x i, type := ty, pos := pos, after := after, guard := g } (p :: T) H nid DK = devK (evop E (p :: T) H nid (.extract x i)) DK := rfl
theorem z0q {all dst ty pos after rest t} : aops P E n all ({ dst := dst, op := .alloc t, type := ty, pos := pos, after := after, guard := none } :: rest) (p :: T) H QT =
  evK (evop E (p :: T) H H.length (.alloc t)) n (p :: T) dst H (fun T' H' => aops P E n all rest T' H' QT) := rfl
theorem z0r {all dst ty pos after rest t} : aops P E n all ({ dst := dst, op := .alloc t, type := ty, pos := pos, after := after, guard := none } :: rest) [] H QT =
  evK (evop E [] H H.length (.alloc t)) n [] dst H (fun T' H' => aops P E n all rest T' H' QT) := rfl
theorem z0s {dst ty pos after g t} : astep P E n { dst := dst, op := .alloc t, type := ty, pos := pos, after := after, guard := g } (p :: T) H K = evK (evop E (p :: T) H H.length (.alloc t)) n (p :: T) dst H K := rfl
theorem z0t {dst ty pos after g nid t} : dstep P E { dst := dst, op := .alloc t, type := ty, pos := pos, after := after, guard := g } (p :: T) H nid DK = devK (evop E (p :: T) H nid (.alloc t)) DK := rfl
theorem z0u {all dst ty pos after rest t x} : aops P E n all ({ dst := dst, op := .box t x, type := ty, pos := pos, after := after, guard := none } :: rest) (p :: T) H QT =
  evK (evop E (p :: T) H H.length (.box t x)) n (p :: T) dst H (fun T' H' => aops P E n all rest T' H' QT) := rfl
theorem z0v {all dst ty pos after rest t x} : aops P E n all ({ dst := dst, op := .box t x, type := ty, pos := pos, after := after, guard := none } :: rest) [] H QT =
  evK (evop E [] H H.length (.box t x)) n [] dst H (fun T' H' => aops P E n all rest T' H' QT) := rfl
theorem z0w {dst ty pos after g t x} : astep P E n { dst := dst, op := .box t x, type := ty, pos := pos, after := after, guard := g } (p :: T) H K = evK (evop E (p :: T) H H.length (.box t x)) n (p :: T) dst H K := rfl
theorem z0x {dst ty pos after g nid t x} : dstep P E { dst := dst, op := .box t x, type := ty, pos := pos, after := after, guard := g } (p :: T) H nid DK = devK (evop E (p :: T) H nid (.box t x)) DK := rfl
theorem z0y {all dst ty pos after rest t x} : aops P E n all ({ dst := dst, op := .load t x, type := ty, pos := pos, after := after, guard := none } :: rest) (p :: T) H QT =
  evK (evop E (p :: T) H H.length (.load t x)) n (p :: T) dst H (fun T' H' => aops P E n all rest T' H' QT) := rfl
theorem z0z {all dst ty pos after rest t x} : aops P E n all ({ dst := dst, op := .load t x, type := ty, pos := pos, after := after, guard := none } :: rest) [] H QT =
  evK (evop E [] H H.length (.load t x)) n [] dst H (fun T' H' => aops P E n all rest T' H' QT) := rfl
theorem z10 {dst ty pos after g t x} : astep P E n { dst := dst, op := .load t x, type := ty, pos := pos, after := after, guard := g } (p :: T) H K = evK (evop E (p :: T) H H.length (.load t x)) n (p :: T) dst H K := rfl
theorem z11 {dst ty pos after g nid t x} : dstep P E { dst := dst, op := .load t x, type := ty, pos := pos, after := after, guard := g } (p :: T) H nid DK = devK (evop E (p :: T) H nid (.load t x)) DK := rfl
theorem z12 {all dst ty pos after rest t x y} : aops P E n all ({ dst := dst, op := .store t x y, type := ty, pos := pos, after := after, guard := none } :: rest) (p :: T) H QT =
  evK (evop E (p :: T) H H.length (.store t x y)) n (p :: T) dst H (fun T' H' => aops P E n all rest T' H' QT) := rfl
theorem z13 {all dst ty pos after rest t x y} : aops P E n all ({ dst := dst, op := .store t x y, type := ty, pos := pos, after := after, guard := none } :: rest) [] H QT =
  evK (evop E [] H H.length (.store t x y)) n [] dst H (fun T' H' => aops P E n all rest T' H' QT) := rfl
theorem z14 {dst ty pos after g t x y} : astep P E n { dst := dst, op := .store t x y, type := ty, pos := pos, after := after, guard := g } (p :: T) H K = evK (evop E (p :: T) H H.length (.store t x y)) n (p :: T) dst H K := rfl
theorem z15 {dst ty pos after g nid t x y} : dstep P E { dst := dst, op := .store t x y, type := ty, pos := pos, after := after, guard := g } (p :: T) H nid DK = devK (evop E (p :: T) H nid (.store t x y)) DK := rfl
theorem z16 {all dst ty pos after rest t x f} : aops P E n all ({ dst := dst, op := .fieldAddr t x f, type := ty, pos := pos, after := after, guard := none } :: rest) (p :: T) H QT =
  evK (evop E (p :: T) H H.length (.fieldAddr t x f)) n (p :: T) dst H (fun T' H' => aops P E n all rest T' H' QT) := rfl
theorem z17 {all dst ty pos after rest t x f} : aops P E n all ({ dst := dst, op := .fieldAddr t x f, type := ty, pos := pos, after := after, guard := none } :: rest) [] H QT =
  evK (evop E [] H H.length (.fieldAddr t x f)) n [] dst H (fun T' H' => aops P E n all rest T' H' QT) := rfl
theorem z18 {dst ty pos after g t x f} : astep P E n { dst := dst, op := .fieldAddr t x f, type := ty, pos := pos, after := after, guard := g } (p :: T) H K = evK (evop E (p :: T) H H.length (.fieldAddr t x f)) n (p :: T) dst H K := rfl
theorem z19 {dst ty pos after g nid t x f} : dstep P E { dst := dst, op := .fieldAddr t x f, type := ty, pos := pos, after := after, guard := g } (p :: T) H nid DK = devK (evop E (p :: T) H nid (.fieldAddr t x f)) DK := rfl
theorem z1a {all dst ty pos after rest t x ix} : aops P E n all ({ dst := dst, op := .indexAddr t x ix, type := ty, pos := pos, after := after, guard := none } :: rest) (p :: T) H QT =
  evK (evop E (p :: T) H H.length (.indexAddr t x ix)) n (p :: T) dst H (fun T' H' => aops P E n all rest T' H' QT) := rfl
theorem z1b {all dst ty pos after rest t x ix} : aops P E n all ({ dst := dst, op := .indexAddr t x ix, type := ty, pos := pos, after := after, guard := none } :: rest) [] H QT =
  evK (evop E [] H H.length (.indexAddr t x ix)) n [] dst H (fun T' H' => aops P E n all rest T' H' QT) := rfl
theorem z1c {dst ty pos after g t x ix} : astep P E n { dst := dst, op := .indexAddr t x ix, type := ty, pos := pos, after := after, guard := g } (p :: T) H K = evK (evop E (p :: T) H H.length (.indexAddr t x ix)) n (p :: T) dst H K := rfl
theorem z1d {dst ty pos after g nid t x ix} : dstep P E { dst := dst, op := .indexAddr t x ix, type := ty, pos := pos, after := after, guard := g } (p :: T) H nid DK = devK (evop E (p :: T) H nid (.indexAddr t x ix)) DK := rfl
theorem z70 {all dst ty pos after rest t x ix} : aops P E n all ({ dst := dst, op := .index t x ix, type := ty, pos := pos, after := after, guard := none } :: rest) (p :: T) H QT =
  evK (evop E (p :: T) H H.length (.index t x ix)) n (p :: T) dst H (fun T' H' => aops P E n all rest T' H' QT) := rfl
theorem z71 {all dst ty pos after rest t x ix} : aops P E n all ({ dst := dst, op := .index t x ix, type := ty, pos := pos, after := after, guard := none } :: rest) [] H QT =
  evK (evop E [] H H.length (.index t x ix)) n [] dst H (fun T' H' => aops P E n all rest T' H' QT) := rfl
theorem z72 {dst ty pos after g t x ix} : astep P E n { dst := dst, op := .index t x ix, type := ty, pos := pos, after := after, guard := g } (p :: T) H K = evK (evop E (p :: T) H H.length (.index t x ix)) n (p :: T) dst H K := rfl
theorem z73 {dst ty pos after g nid t x ix} : dstep P E { dst := dst, op := .index t x ix, type := ty, pos := pos, after := after, guard := g } (p :: T) H nid DK = devK (evop E (p :: T) H nid (.index t x ix)) DK := rfl
theorem z1e {all dst ty pos after rest t x lo hi mx} : aops P E n all ({ dst := dst, op := .slice t x lo hi mx, type := ty, pos := pos, after := after, guard := none } :: rest) (p :: T) H QT =
  evK (evop E (p :: T) H H.length (.slice t x lo hi mx)) n (p :: T) dst H (fun T' H' => aops P E n all rest T' H' QT) := rfl
theorem z1f {all dst ty pos after rest t x lo hi mx} : aops P E n all ({ dst := dst, op := .slice t x lo hi mx, type := ty, pos := pos, after := after, guard := none } :: rest) [] H QT =
  evK (evop E [] H H.length (.slice t x lo hi mx)) n [] dst H (fun T' H' => aops P E n all rest T' H' QT) := rfl
theorem z1g {dst ty pos after g t x lo hi mx} : astep P E n { dst := dst, op := .slice t x lo hi mx, type := ty, pos := pos, after := after, guard := g } (p :: T) H K = evK (evop E (p :: T) H H.length (.slice t x lo hi mx)) n (p :: T) dst H K := rfl
theorem z1h {dst ty pos after g nid t x lo hi mx} : dstep P E { dst := dst, op := .slice t x lo hi mx, type := ty, pos := pos, after := after, guard := g } (p :: T) H nid DK = devK (evop E (p :: T) H nid (.slice t x lo hi mx)) DK := rfl
theorem z1i {all dst ty pos after rest t k ps} : aops P E n all ({ dst := dst, op := .buildSlice t k ps, type := ty, pos := pos, after := after, guard := none } :: rest) (p :: T) H QT =
  evK (evop E (p :: T) H H.length (.buildSlice t k ps)) n (p :: T) dst H (fun T' H' => aops P E n all rest T' H' QT) := rfl
theorem z1j {all dst ty pos after rest t k ps} : aops P E n all ({ dst := dst, op := .buildSlice t k ps, type := ty, pos := pos, after := after, guard := none } :: rest) [] H QT =
  evK (evop E [] H H.length (.buildSlice t k ps)) n [] dst H (fun T' H' => aops P E n all rest T' H' QT) := rfl
theorem z1k {dst ty pos after g t k ps} : astep P E n { dst := dst, op := .buildSlice t k ps, type := ty, pos := pos, after := after, guard := g } (p :: T) H K = evK (evop E (p :: T) H H.length (.buildSlice t k ps)) n (p :: T) dst H K := rfl
theorem z1l {dst ty pos after g nid t k ps} : dstep P E { dst := dst, op := .buildSlice t k ps, type := ty, pos := pos, after := after, guard := g } (p :: T) H nid DK = devK (evop E (p :: T) H nid (.buildSlice t k ps)) DK := rfl
theorem z65 {all dst ty pos after rest t k c b} : aops P E n all ({ dst := dst, op := .lookup t k c b, type := ty, pos := pos, after := after, guard := none } :: rest) (p :: T) H QT =
  evK (evop E (p :: T) H H.length (.lookup t k c b)) n (p :: T) dst H (fun T' H' => aops P E n all rest T' H' QT) := rfl
theorem z66 {dst ty pos after g t k c b} : astep P E n { dst := dst, op := .lookup t k c b, type := ty, pos := pos, after := after, guard := g } (p :: T) H K = evK (evop E (p :: T) H H.length (.lookup t k c b)) n (p :: T) dst H K := rfl
theorem z67 {dst ty pos after g nid t k c b} : dstep P E { dst := dst, op := .lookup t k c b, type := ty, pos := pos, after := after, guard := g } (p :: T) H nid DK = devK (evop E (p :: T) H nid (.lookup t k c b)) DK := rfl
theorem z60 {all dst ty pos after rest t k c} : aops P E n all ({ dst := dst, op := .makeSlice t k c, type := ty, pos := pos, after := after, guard := none } :: rest) (p :: T) H QT =
  evK (evop E (p :: T) H H.length (.makeSlice t k c)) n (p :: T) dst H (fun T' H' => aops P E n all rest T' H' QT) := rfl
theorem z61 {all dst ty pos after rest t k c} : aops P E n all ({ dst := dst, op := .makeSlice t k c, type := ty, pos := pos, after := after, guard := none } :: rest) [] H QT =
  evK (evop E [] H H.length (.makeSlice t k c)) n [] dst H (fun T' H' => aops P E n all rest T' H' QT) := rfl
theorem z62 {dst ty pos after g t k c} : astep P E n { dst := dst, op := .makeSlice t k c, type := ty, pos := pos, after := after, guard := g } (p :: T) H K = evK (evop E (p :: T) H H.length (.makeSlice t k c)) n (p :: T) dst H K := rfl
theorem z63 {dst ty pos after g nid t k c} : dstep P E { dst := dst, op := .makeSlice t k c, type := ty, pos := pos, after := after, guard := g } (p :: T) H nid DK = devK (evop E (p :: T) H nid (.makeSlice t k c)) DK := rfl
theorem z1m {all dst ty pos after rest t ps} : aops P E n all ({ dst := dst, op := .build t ps, type := ty, pos := pos, after := after, guard := none } :: rest) (p :: T) H QT =
  evK (evop E (p :: T) H H.length (.build t ps)) n (p :: T) dst H (fun T' H' => aops P E n all rest T' H' QT) := rfl
theorem z1n {all dst ty pos after rest t ps} : aops P E n all ({ dst := dst, op := .build t ps, type := ty, pos := pos, after := after, guard := none } :: rest) [] H QT =
  evK (evop E [] H H.length (.build t ps)) n [] dst H (fun T' H' => aops P E n all rest T' H' QT) := rfl
theorem z1o {dst ty pos after g t ps} : astep P E n { dst := dst, op := .build t ps, type := ty, pos := pos, after := after, guard := g } (p :: T) H K = evK (evop E (p :: T) H H.length (.build t ps)) n (p :: T) dst H K := rfl
theorem z1p {dst ty pos after g nid t ps} : dstep P E { dst := dst, op := .build t ps, type := ty, pos := pos, after := after, guard := g } (p :: T) H nid DK = devK (evop E (p :: T) H nid (.build t ps)) DK := rfl
theorem z1q {all dst ty pos after rest f a b} : aops P E n all ({ dst := dst, op := .makeFunc f a b, type := ty, pos := pos, after := after, guard := none } :: rest) (p :: T) H QT =
  evK (evop E (p :: T) H H.length (.makeFunc f a b)) n (p :: T) dst H (fun T' H' => aops P E n all rest T' H' QT) := rfl
theorem z1r {all dst ty pos after rest f a b} : aops P E n all ({ dst := dst, op := .makeFunc f a b, type := ty, pos := pos, after := after, guard := none } :: rest) [] H QT =
  evK (evop E [] H H.length (.makeFunc f a b)) n [] dst H (fun T' H' => aops P E n all rest T' H' QT) := rfl
theorem z1s {dst ty pos after g f a b} : astep P E n { dst := dst, op := .makeFunc f a b, type := ty, pos := pos, after := after, guard := g } (p :: T) H K = evK (evop E (p :: T) H H.length (.makeFunc f a b)) n (p :: T) dst H K := rfl
theorem z1t {dst ty pos after g nid f a b} : dstep P E { dst := dst, op := .makeFunc f a b, type := ty, pos := pos, after := after, guard := g } (p :: T) H nid DK = devK (evop E (p :: T) H nid (.makeFunc f a b)) DK := rfl
theorem z1u {all dst ty pos after rest x} : aops P E n all ({ dst := dst, op := .nilCheck x, type := ty, pos := pos, after := after, guard := none } :: rest) (p :: T) H QT =
  evK (evop E (p :: T) H H.length (.nilCheck x)) n (p :: T) dst H (fun T' H' => aops P E n all rest T' H' QT) := rfl
theorem z1v {all dst ty pos after rest x} : aops P E n all ({ dst := dst, op := .nilCheck x, type := ty, pos := pos, after := after, guard := none } :: rest) [] H QT =
  evK (evop E [] H H.length (.nilCheck x)) n [] dst H (fun T' H' => aops P E n all rest T' H' QT) := rfl
theorem z1w {dst ty pos after g x} : astep P E n { dst := dst, op := .nilCheck x, type := ty, pos := pos, after := after, guard := g } (p :: T) H K = evK (evop E (p :: T) H H.length (.nilCheck x)) n (p :: T) dst H K := rfl
theorem z1x {dst ty pos after g nid x} : dstep P E { dst := dst, op := .nilCheck x, type := ty, pos := pos, after := after, guard := g } (p :: T) H nid DK = devK (evop E (p :: T) H nid (.nilCheck x)) DK := rfl
theorem z1y {all dst ty pos after rest s t x} : aops P E n all ({ dst := dst, op := .convert s t x, type := ty, pos := pos, after := after, guard := none } :: rest) (p :: T) H QT =
  evK (evop E (p :: T) H H.length (.convert s t x)) n (p :: T) dst H (fun T' H' => aops P E n all rest T' H' QT) := rfl
theorem z1z {all dst ty pos after rest s t x} : aops P E n all ({ dst := dst, op := .convert s t x, type := ty, pos := pos, after := after, guard := none } :: rest) [] H QT =
  evK (evop E [] H H.length (.convert s t x)) n [] dst H (fun T' H' => aops P E n all rest T' H' QT) := rfl
theorem z20 {dst ty pos after g s t x} : astep P E n { dst := dst, op := .convert s t x, type := ty, pos := pos, after := after, guard := g } (p :: T) H K = evK (evop E (p :: T) H H.length (.convert s t x)) n (p :: T) dst H K := rfl
theorem z21 {dst ty pos after g nid s t x} : dstep P E { dst := dst, op := .convert s t x, type := ty, pos := pos, after := after, guard := g } (p :: T) H nid DK = devK (evop E (p :: T) H nid (.convert s t x)) DK := rfl
theorem z22 {all dst ty pos after rest b args ats} : aops P E n all ({ dst := dst, op := .call { callee := .builtin b, args := args, argTypes := ats }, type := ty, pos := pos, after := after, guard := none } :: rest) (p :: T) H QT =
  evK (evop E (p :: T) H H.length (.call { callee := .builtin b, args := args, argTypes := ats })) n (p :: T) dst H (fun T' H' => aops P E n all rest T' H' QT) := rfl
theorem z23 {all dst ty pos after rest b args ats} : aops P E n all ({ dst := dst, op := .call { callee := .builtin b, args := args, argTypes := ats }, type := ty, pos := pos, after := after, guard := none } :: rest) [] H QT =
  evK (evop E [] H H.length (.call { callee := .builtin b, args := args, argTypes := ats })) n [] dst H (fun T' H' => aops P E n all rest T' H' QT) := rfl
theorem z24 {dst ty pos after g b args ats} : astep P E n { dst := dst, op := .call { callee := .builtin b, args := args, argTypes := ats }, type := ty, pos := pos, after := after, guard := g } (p :: T) H K = evK (evop E (p :: T) H H.length (.call { callee := .builtin b, args := args, argTypes := ats })) n (p :: T) dst H K := rfl
theorem z25 {dst ty pos after g nid b args ats} : dstep P E { dst := dst, op := .call { callee := .builtin b, args := args, argTypes := ats }, type := ty, pos := pos, after := after, guard := g } (p :: T) H nid DK = devK (evop E (p :: T) H nid (.call { callee := .builtin b, args := args, argTypes := ats })) DK := rfl
theorem z26 {all dst ty pos after rest fo args ats} : aops P E n all ({ dst := dst, op := .call { callee := .value fo, args := args, argTypes := ats }, type := ty, pos := pos, after := after, guard := none } :: rest) (p :: T) H QT =
  (match calleeOf (p :: T) fo with
    | some (f, gg) => acall P n f (gg (args.toList.map (ev (p :: T)))) dst (p :: T) H (fun T' H' => aops P E n all rest T' H' QT)
    | none => False) := rfl
theorem z27 {all dst ty pos after rest fo args ats} : aops P E n all ({ dst := dst, op := .call { callee := .value fo, args := args, argTypes := ats }, type := ty, pos := pos, after := after, guard := none } :: rest) [] H QT =
  (match calleeOf [] fo with
    | some (f, gg) => acall P n f (gg (args.toList.map (ev []))) dst [] H (fun T' H' => aops P E n all rest T' H' QT)
    | none => False) := rfl
theorem z28 {dst ty pos after g fo args ats} : astep P E n { dst := dst, op := .call { callee := .value fo, args := args, argTypes := ats }, type := ty, pos := pos, after := after, guard := g } (p :: T) H K =
  (match calleeOf (p :: T) fo with
    | some (f, gg) => acall P n f (gg (args.toList.map (ev (p :: T)))) dst (p :: T) H K
    | none => False) := rfl
theorem z29 {dst ty pos after g nid fo args ats} : dstep P E { dst := dst, op := .call { callee := .value fo, args := args, argTypes := ats }, type := ty, pos := pos, after := after, guard := g } (p :: T) H nid DK =
  (match calleeOf (p :: T) fo with
    | some (f, gg) => (args.toList.all fun x => !(ev (p :: T) x).isUndef) = true ∧ dcall P f (gg (args.toList.map (ev (p :: T)))) H nid DK
    | none => False) := by
  simp only [dstep, dcall]
  cases calleeOf (p :: T) fo <;> rfl
theorem z2a {all dst op ty pos after j want rest} : aops P E n all ({ dst := dst, op := op, type := ty, pos := pos, after := after, guard := some (j, want) } :: rest) (p :: T) H QT =
  (match guardOf all j with
      | some t => (match tget (p :: T) t with
        | .d (.bool b) => if b = want then astep P E n { dst := dst, op := op, type := ty, pos := pos, after := after, guard := some (j, want) } ((t, .d (.bool want)) :: p :: T) H (fun T' H' => aops P E n all rest T' H' QT)
          else aops P E n all rest (tput n ((t, .d (.bool !want)) :: p :: T) dst (.d (.tuple []))) H QT
        | .d (.tuple []) => aops P E n all rest (tput n (p :: T) dst (.d (.tuple []))) H QT
        | _ => False)
      | none => False) := rfl
theorem z2b {all s L0 i plan} : drun P E n all s L0 i [] plan (p :: T) H QT = QT (p :: T) H := by cases plan <;> rfl
theorem z3d {dst ty pos after g ms x} : bstep P E n { dst := dst, op := .move x, type := ty, pos := pos, after := after, guard := g } ms (p :: T) H K = evK (evop E (maskT ms (p :: T)) H H.length (.move x)) n (p :: T) dst H K := rfl
theorem z3e {dst ty pos after g ms x} : bstep P E n { dst := dst, op := .assign x, type := ty, pos := pos, after := after, guard := g } ms (p :: T) H K = evK (evop E (maskT ms (p :: T)) H H.length (.assign x)) n (p :: T) dst H K := rfl
theorem z3f {dst ty pos after g ms c x y} : bstep P E n { dst := dst, op := .pick c x y, type := ty, pos := pos, after := after, guard := g } ms (p :: T) H K = evK (evop E (maskT ms (p :: T)) H H.length (.pick c x y)) n (p :: T) dst H K := rfl
theorem z3g {dst ty pos after g ms u t x} : bstep P E n { dst := dst, op := .unOp u t x, type := ty, pos := pos, after := after, guard := g } ms (p :: T) H K = evK (evop E (maskT ms (p :: T)) H H.length (.unOp u t x)) n (p :: T) dst H K := rfl
theorem z3h {dst ty pos after g ms b t x y t'} : bstep P E n { dst := dst, op := .binOp b t x y t', type := ty, pos := pos, after := after, guard := g } ms (p :: T) H K = evK (evop E (maskT ms (p :: T)) H H.length (.binOp b t x y t')) n (p :: T) dst H K := rfl
theorem z3i {dst ty pos after g ms x i} : bstep P E n { dst := dst, op := .extract x i, type := ty, pos := pos, after := after, guard := g } ms (p :: T) H K = evK (evop E (maskT ms (p :: T)) H H.length (.extract x i)) n (p :: T) dst H K := rfl
theorem z3j {dst ty pos after g ms t} : bstep P E n { dst := dst, op := .alloc t, type := ty, pos := pos, after := after, guard := g } ms (p :: T) H K = evK (evop E (maskT ms (p :: T)) H H.length (.alloc t)) n (p :: T) dst H K := rfl
theorem z3k {dst ty pos after g ms t x} : bstep P E n { dst := dst, op := .box t x, type := ty, pos := pos, after := after, guard := g } ms (p :: T) H K = evK (evop E (maskT ms (p :: T)) H H.length (.box t x)) n (p :: T) dst H K := rfl
theorem z3l {dst ty pos after g ms t x} : bstep P E n { dst := dst, op := .load t x, type := ty, pos := pos, after := after, guard := g } ms (p :: T) H K = evK (evop E (maskT ms (p :: T)) H H.length (.load t x)) n (p :: T) dst H K := rfl
theorem z3m {dst ty pos after g ms t x y} : bstep P E n { dst := dst, op := .store t x y, type := ty, pos := pos, after := after, guard := g } ms (p :: T) H K = evK (evop E (maskT ms (p :: T)) H H.length (.store t x y)) n (p :: T) dst H K := rfl
theorem z3n {dst ty pos after g ms t x f} : bstep P E n { dst := dst, op := .fieldAddr t x f, type := ty, pos := pos, after := after, guard := g } ms (p :: T) H K = evK (evop E (maskT ms (p :: T)) H H.length (.fieldAddr t x f)) n (p :: T) dst H K := rfl
theorem z3o {dst ty pos after g ms t x ix} : bstep P E n { dst := dst, op := .indexAddr t x ix, type := ty, pos := pos, after := after, guard := g } ms (p :: T) H K = evK (evop E (maskT ms (p :: T)) H H.length (.indexAddr t x ix)) n (p :: T) dst H K := rfl
theorem z3p {dst ty pos after g ms t x lo hi mx} : bstep P E n { dst := dst, op := .slice t x lo hi mx, type := ty, pos := pos, after := after, guard := g } ms (p :: T) H K = evK (evop E (maskT ms (p :: T)) H H.length (.slice t x lo hi mx)) n (p :: T) dst H K := rfl
theorem z3q {dst ty pos after g ms t k ps} : bstep P E n { dst := dst, op := .buildSlice t k ps, type := ty, pos := pos, after := after, guard := g } ms (p :: T) H K = evK (evop E (maskT ms (p :: T)) H H.length (.buildSlice t k ps)) n (p :: T) dst H K := rfl
theorem z64 {dst ty pos after g ms t k c} : bstep P E n { dst := dst, op := .makeSlice t k c, type := ty, pos := pos, after := after, guard := g } ms (p :: T) H K = evK (evop E (maskT ms (p :: T)) H H.length (.makeSlice t k c)) n (p :: T) dst H K := rfl
theorem z68 {dst ty pos after g ms t k c b} : bstep P E n { dst := dst, op := .lookup t k c b, type := ty, pos := pos, after := after, guard := g } ms (p :: T) H K = evK (evop E (maskT ms (p :: T)) H H.length (.lookup t k c b)) n (p :: T) dst H K := rfl
theorem z3r {dst ty pos after g ms t ps} : bstep P E n { dst := dst, op := .build t ps, type := ty, pos := pos, after := after, guard := g } ms (p :: T) H K = evK (evop E (maskT ms (p :: T)) H H.length (.build t ps)) n (p :: T) dst H K := rfl
theorem z3s {dst ty pos after g ms f a b} : bstep P E n { dst := dst, op := .makeFunc f a b, type := ty, pos := pos, after := after, guard := g } ms (p :: T) H K = evK (evop E (maskT ms (p :: T)) H H.length (.makeFunc f a b)) n (p :: T) dst H K := rfl
theorem z3t {dst ty pos after g ms x} : bstep P E n { dst := dst, op := .nilCheck x, type := ty, pos := pos, after := after, guard := g } ms (p :: T) H K = evK (evop E (maskT ms (p :: T)) H H.length (.nilCheck x)) n (p :: T) dst H K := rfl
theorem z3u {dst ty pos after g ms s t x} : bstep P E n { dst := dst, op := .convert s t x, type := ty, pos := pos, after := after, guard := g } ms (p :: T) H K = evK (evop E (maskT ms (p :: T)) H H.length (.convert s t x)) n (p :: T) dst H K := rfl
theorem z3v {dst ty pos after g ms b args ats} : bstep P E n { dst := dst, op := .call { callee := .builtin b, args := args, argTypes := ats }, type := ty, pos := pos, after := after, guard := g } ms (p :: T) H K = evK (evop E (maskT ms (p :: T)) H H.length (.call { callee := .builtin b, args := args, argTypes := ats })) n (p :: T) dst H K := rfl
theorem z3w {dst ty pos after g ms fo args ats} : bstep P E n { dst := dst, op := .call { callee := .value fo, args := args, argTypes := ats }, type := ty, pos := pos, after := after, guard := g } ms (p :: T) H K =
  (match calleeOf (maskT ms (p :: T)) fo with
    | some (f, gg) => (args.toList.all fun x => !(ev (maskT ms (p :: T)) x).isUndef) = true ∧ acall P n f (gg (args.toList.map (ev (maskT ms (p :: T))))) dst (p :: T) H K
    | none => False) := by
  simp only [bstep, acall]
  cases calleeOf (maskT ms (p :: T)) fo <;> rfl
theorem z2c {all s L0 i dst op ty pos after rest B ms mi lag plan} : drun P E n all s L0 i ({ dst := dst, op := op, type := ty, pos := pos, after := after, guard := none } :: rest) (⟨B, true, ms, mi, lag⟩ :: plan) (p :: T) H QT =
  bstep P E n { dst := dst, op := op, type := ty, pos := pos, after := after, guard := none } ms (p :: T) H (fun T' H' => drun P E n all (i + 1) H'.length (i + 1) rest plan T' H' QT) := by
  simp [drun]
theorem z2d {all s L0 i dst op ty pos after rest B ms mi plan} : drun P E n all s L0 i ({ dst := dst, op := op, type := ty, pos := pos, after := after, guard := none } :: rest) (⟨B, false, ms, mi, false⟩ :: plan) (p :: T) H QT =
  (dstep P E { dst := dst, op := op, type := ty, pos := pos, after := after, guard := none } (maskT ms (p :: T)) (maskH s L0 mi H) (L0 + (i - s)) fun v b => drun P E n all s L0 (i + 1) rest plan (tput n (p :: T) dst v) (hput H (L0 + (i - s)) b) QT) := by
  simp [drun]
theorem z2dl {all s L0 i dst op ty pos after rest B ms mi plan} : drun P E n all s L0 i ({ dst := dst, op := op, type := ty, pos := pos, after := after, guard := none } :: rest) (⟨B, false, ms, mi, true⟩ :: plan) (p :: T) H QT =
  (dstep P E { dst := dst, op := op, type := ty, pos := pos, after := after, guard := none } (maskT ms (p :: T)) [] (L0 + (i - s)) fun v b => drun P E n all s L0 (i + 1) rest plan (tput n (p :: T) dst v) (hput H (L0 + (i - s)) b) QT) := by
  simp [drun]
theorem z2e {all s L0 i dst op ty pos after j want rest B ms mi lag plan} : drun P E n all s L0 i ({ dst := dst, op := op, type := ty, pos := pos, after := after, guard := some (j, want) } :: rest) (⟨B, false, ms, mi, lag⟩ :: plan) (p :: T) H QT =
  (match guardOf all j with
        | some t => (match tget (maskT ms (p :: T)) t with
          | .d (.bool b) => if b = want then dstep P E { dst := dst, op := op, type := ty, pos := pos, after := after, guard := some (j, want) } (maskT ms ((t, .d (.bool want)) :: p :: T)) (maskH s L0 mi H) (L0 + (i - s)) fun v b => drun P E n all s L0 (i + 1) rest plan (tput n ((t, .d (.bool want)) :: p :: T) dst v) (hput H (L0 + (i - s)) b) QT
            else drun P E n all s L0 (i + 1) rest plan (tput n ((t, .d (.bool !want)) :: p :: T) dst (.d (.tuple []))) (hput H (L0 + (i - s)) .dead) QT
          | .d (.tuple []) => drun P E n all s L0 (i + 1) rest plan (tput n (p :: T) dst (.d (.tuple []))) (hput H (L0 + (i - s)) .dead) QT
          | _ => False)
        | none => False) := by
  simp only [drun, Bool.false_eq_true, if_false]
  cases guardOf all j with
  | none => rfl
  | some t =>
    simp only
    cases tget (maskT ms (p :: T)) t with
    | d x =>
      cases x with
      | tuple l => cases l <;> rfl
      | _ => rfl
    | _ => rfl
theorem z2f : maskT [] T = T := rfl
theorem z2g {t ms} : maskT (t :: ms) T = (t, .d .undef) :: maskT ms T := rfl
theorem z2h {s L0} : maskH s L0 [] H = H := rfl
theorem z2i {s L0 k r} : maskH s L0 (k :: r) H = maskH s L0 r (if s ≤ k then hput H (L0 + (k - s)) .unborn else H) := rfl
theorem z35 {dst r} : nilK none n T dst H K r = evK r n T dst H K := rfl
theorem z36 {b : Bool} {pt pf : Prop} {dst r} : nilK (some (b, pt, pf)) n T dst H K r = ((pt → K (tput n T dst (.d (.bool b))) H) ∧ (pf → K (tput n T dst (.d (.bool !b))) H)) := rfl
theorem z2j {q : Prop} {v dst ch} : evK (some (q, v, ch)) n T dst H K = (q ∧ K (tput n T dst v) (ch.on H H.length)) := rfl
theorem z2k {q : Prop} {v} : devK (some (q, v, .no)) DK = (q ∧ DK v .dead) := rfl
theorem z2l {q : Prop} {v b} : devK (some (q, v, .new b)) DK = (q ∧ DK v b) := rfl
theorem z2m {rs r} : Fin E rs r .ret T H = afin E rs r T H := rfl
theorem z2n {rs r} : Fin E rs r .normal T H = afin E rs r T H := rfl
theorem z2o {rs r} : afin E rs r T H = (match resOf E T H rs with | some v => xport H 40 v = some r | none => False) := by
  unfold afin
  cases resOf E T H rs <;> simp

theorem acall_flat {f : Nat} {vs : List V} {ds : List D} {r : D} {dst : Option Nat} (hx : xports H 40 vs = some ds) (h : CSpec P f ds r) (hr : r.flat = true) (hK : K (tput n T dst (.d r)) H) : acall P n f vs dst T H K :=
  acall_r (CSpec.flat 40 hx h hr) hK
theorem acall_flat' {f : Nat} {vs : List V} {ds : List D} {r : D} {dst : Option Nat} (h : CSpec P f ds r) (hr : r.flat = true) (hK : K (tput n T dst (.d r)) H) (hx : xports H 40 vs = some ds := by first | rfl | (simp only [xports, xport, hget]; rfl)) : acall P n f vs dst T H K := acall_flat hx h hr hK

theorem acall_ice {f : Nat} {vs : List V} {ds : List D} {r : D} {dst : Option Nat} (hx : xports H 40 vs = some ds) (h : CSpec P f ds r) (hK : K (tput n T dst (.d r)) (freeze H (tidss H 40 vs))) : acall P n f vs dst T H K :=
  acall_r (CSpec.ice 40 hx h) hK
theorem acall_ice' {f : Nat} {vs : List V} {ds : List D} {r : D} {dst : Option Nat} (h : CSpec P f ds r) (hK : K (tput n T dst (.d r)) (freeze H (tidss H 40 vs))) (hx : xports H 40 vs = some ds := by first | rfl | (simp only [xports, xport, hget]; rfl)) : acall P n f vs dst T H K := acall_ice hx h hK

theorem dcall_flat {f : Nat} {vs : List V} {ds : List D} {r : D} (hx : xports H 40 vs = some ds) (h : CSpec P f ds r) (hr : r.flat = true) {nid : Nat} (hK : DK (.d r) .dead) : dcall P f vs H nid DK :=
  ⟨_, _, DSpec.flat hx h hr, hK⟩
theorem dcall_flat' {f : Nat} {vs : List V} {ds : List D} {r : D} (h : CSpec P f ds r) (hr : r.flat = true) {nid : Nat} (hK : DK (.d r) .dead) (hx : xports H 40 vs = some ds := by first | rfl | (simp only [xports, xport, hget]; rfl)) : dcall P f vs H nid DK := dcall_flat hx h hr hK

theorem dcall_still {f : Nat} {vs : List V} {ds : List D} {r : D} (hx : xports H 40 vs = some ds) (h : CSpec P f ds r) (hi : tidss H 40 vs = []) {nid : Nat} (hK : DK (.d r) .dead) : dcall P f vs H nid DK :=
  ⟨_, _, DSpec.still hx h hi, hK⟩
theorem dcall_still' {f : Nat} {vs : List V} {ds : List D} {r : D} (h : CSpec P f ds r) (hi : tidss H 40 vs = []) {nid : Nat} (hK : DK (.d r) .dead) (hx : xports H 40 vs = some ds := by first | rfl | (simp only [xports, xport, hget]; rfl)) : dcall P f vs H nid DK := dcall_still hx h hi hK

theorem Weak.rfl' : Weak m T H T H := fun C φ S w a hH hT => ⟨φ, S, hH, hT, .refl⟩
theorem wdraw_plan {ops : List Oper} (plan : List PE) (hp : planOk ops plan = true) (h : drun P E n ops 0 H.length 0 ops plan T H QT) : wdraw P E n m ops T H QT := ⟨T, H, .rfl', T, ops, .inl ⟨rfl, rfl⟩, plan, hp, h⟩
theorem wdraw_perm {ops : List Oper} {T2 : Tmps} (D rl pl : List Nat) (hk : permOk D rl pl ops = true) (ht : takesT E n H ops D T = some T2) (plan : List PE) (hp : planOk (permOps D rl pl ops) plan = true) (h : drun P E n (permOps D rl pl ops) 0 H.length 0 (permOps D rl pl ops) plan T2 H QT) : wdraw P E n m ops T H QT := ⟨T, H, .rfl', T2, _, .inr ⟨D, rl, pl, hk, ht, rfl⟩, plan, hp, h⟩
theorem wdraw_weak {ops : List Oper} {T' : Tmps} {H' : Heap} (hw : Weak m T H T' H') (plan : List PE) (hp : planOk ops plan = true) (h : drun P E n ops 0 H'.length 0 ops plan T' H' QT) : wdraw P E n m ops T H QT := ⟨T', H', hw, T', ops, .inl ⟨rfl, rfl⟩, plan, hp, h⟩

theorem xports_ds : ∀ (l : List D) (k : Nat), l.length < k → xports H k (l.map V.d) = some l
  | [], k + 1, _ => rfl
  | [], 0, h => by simp at h
  | x :: l, k + 1, h => by
    obtain ⟨k', rfl⟩ : ∃ k', k = k' + 1 := ⟨k - 1, by simp at h; omega⟩
    simp only [List.map_cons, xports, xport, xports_ds l (k' + 1) (by simpa using h)]
  | x :: l, 0, h => by simp at h

theorem Weak.sub {T' : Tmps} (h : ∀ q ∈ T', tget T q.1 = q.2) : Weak m T H T' H := by
  intro C φ S w a hH hT
  refine ⟨φ, S, hH, fun t => ?_, .refl⟩
  have : tget T' t = tget T t ∨ tget T' t = .d .undef := by
    clear hT
    induction T' with
    | nil => exact .inr rfl
    | cons q r ih =>
      simp only [tget]
      split
      · rename_i e; left; rw [e]; exact (h q (List.mem_cons_self ..)).symm
      · exact ih (fun q hq => h q (List.mem_cons_of_mem _ hq))
  rcases this with e | e
  · rw [e]; exact hT t
  · rw [e]; exact .d _ _ (.undef _)

theorem aloop_ind {σ : Type} (μ : σ → Nat) (TT : σ → Tmps) (HH : σ → Heap) {F : Tmps → Heap → (Ex → Tmps → Heap → Prop) → Prop} (hmono : ∀ T H (Q1 Q2 : Ex → Tmps → Heap → Prop), (∀ e T' H', Q1 e T' H' → Q2 e T' H') → F T H Q1 → F T H Q2)
    (I : σ → Prop) (hF : ∀ s, I s → F (TT s) (HH s) fun e T' H' => match e with
      | .normal => ∃ s', I s' ∧ μ s' < μ s ∧ Weak m T' H' (TT s') (HH s')
      | e => Q e T' H') : ∀ s, I s → ∃ k, aloop m F Q k (TT s) (HH s) := by
  have key : ∀ (N : Nat) (s : σ), μ s < N → I s → aloop m F Q N (TT s) (HH s) := by
    intro N
    induction N with
    | zero => intro s h; omega
    | succ N ih =>
      intro s hs hI
      refine hmono _ _ _ _ ?_ (hF s hI)
      rintro e T' H' he
      cases e with
      | normal =>
        obtain ⟨s', h1, h2, h3⟩ := he
        exact ⟨_, _, h3, ih s' (by omega) h1⟩
      | exit i => exact he
      | ret => exact he
  exact fun s hI => ⟨_, key (μ s + 1) s (by omega) hI⟩


end
end Go.Proofs.Ytaejlmengfahnaa.AM

set_option linter.all false
namespace Go.Proofs.Ytaejlmengfahnaa.AM
open Go Go.RowKit

section
variable {P : Program} {E : Env} {n m : Nat}

theorem astep_mono {o : Oper} {T : Tmps} {H : Heap} {K1 K2 : Tmps → Heap → Prop} (hK : ∀ T H, K1 T H → K2 T H) (h : astep P E n o T H K1) : astep P E n o T H K2 := by
  unfold astep at h ⊢
  split at h
  · split at h
    · obtain ⟨Qf, h1, h2⟩ := h; exact ⟨Qf, h1, fun r H' hq => hK _ _ (h2 r H' hq)⟩
    · exact h.elim
  · split at h
    · exact ⟨fun hp => hK _ _ (h.1 hp), fun hp => hK _ _ (h.2 hp)⟩
    · split at h
      · exact ⟨h.1, hK _ _ h.2⟩
      · exact h.elim

theorem aops_mono {all : List Oper} : ∀ (l : List Oper) {T : Tmps} {H : Heap} {K1 K2 : Tmps → Heap → Prop}, (∀ T H, K1 T H → K2 T H) → aops P E n all l T H K1 → aops P E n all l T H K2
  | [], T, H, K1, K2, hK, h => hK _ _ h
  | o :: rest, T, H, K1, K2, hK, h => by
    simp only [aops] at h ⊢
    split at h
    · exact astep_mono (fun T H h => aops_mono rest hK h) h
    · split at h
      · split at h
        · split at h
          · rename_i e; rw [if_pos e]; exact astep_mono (fun T H h => aops_mono rest hK h) h
          · rename_i e; rw [if_neg e]; exact aops_mono rest hK h
        · exact aops_mono rest hK h
        · exact h.elim
      · exact h.elim

theorem dstep_mono {o : Oper} {T : Tmps} {H : Heap} {nid : Nat} {K1 K2 : V → Blk → Prop} (hK : ∀ v b, K1 v b → K2 v b) (h : dstep P E o T H nid K1) : dstep P E o T H nid K2 := by
  unfold dstep at h ⊢
  split at h
  · split at h
    · obtain ⟨h0, v, b, h1, h2⟩ := h; exact ⟨h0, v, b, h1, hK _ _ h2⟩
    · exact h.elim
  · split at h
    · exact ⟨h.1, hK _ _ h.2⟩
    · exact ⟨h.1, hK _ _ h.2⟩
    · exact h.elim

theorem bstep_mono {o : Oper} {ms : List Nat} {T : Tmps} {H : Heap} {K1 K2 : Tmps → Heap → Prop} (hK : ∀ T H, K1 T H → K2 T H) (h : bstep P E n o ms T H K1) : bstep P E n o ms T H K2 := by
  unfold bstep at h ⊢
  split at h
  · split at h
    · obtain ⟨h0, Qf, h1, h2⟩ := h; exact ⟨h0, Qf, h1, fun r H' hq => hK _ _ (h2 r H' hq)⟩
    · exact h.elim
  · split at h
    · exact ⟨h.1, hK _ _ h.2⟩
    · exact h.elim

theorem drun_mono {all : List Oper} : ∀ (l : List Oper) (s L0 i : Nat) (plan : List PE) {T : Tmps} {H : Heap} {K1 K2 : Tmps → Heap → Prop}, (∀ T H, K1 T H → K2 T H) → drun P E n all s L0 i l plan T H K1 → drun P E n all s L0 i l plan T H K2
  | [], s, L0, i, plan, T, H, K1, K2, hK, h => by cases plan <;> exact hK _ _ h
  | o :: rest, s, L0, i, [], T, H, K1, K2, hK, h => h.elim
  | o :: rest, s, L0, i, pe :: plan, T, H, K1, K2, hK, h => by
    simp only [drun] at h ⊢
    split at h
    · rename_i hb
      rw [if_pos hb]
      exact ⟨h.1, bstep_mono (fun T H h => drun_mono rest _ _ _ plan hK h) h.2⟩
    · rename_i hb
      rw [if_neg hb]
      split at h
      · exact dstep_mono (fun v b h => drun_mono rest _ _ _ plan hK h) h
      · split at h
        · split at h
          · split at h
            · rename_i e; rw [if_pos e]; exact dstep_mono (fun v b h => drun_mono rest _ _ _ plan hK h) h
            · rename_i e; rw [if_neg e]; exact drun_mono rest _ _ _ plan hK h
          · exact drun_mono rest _ _ _ plan hK h
          · exact h.elim
        · exact h.elim

theorem aloop_mono {F : Tmps → Heap → (Ex → Tmps → Heap → Prop) → Prop} (hF : ∀ (T : Tmps) (H : Heap) (Q1 Q2 : Ex → Tmps → Heap → Prop), (∀ e T H, Q1 e T H → Q2 e T H) → F T H Q1 → F T H Q2) {Q1 Q2 : Ex → Tmps → Heap → Prop} (hQ : ∀ e T H, Q1 e T H → Q2 e T H) :
    ∀ (k : Nat) {T : Tmps} {H : Heap}, aloop m F Q1 k T H → aloop m F Q2 k T H
  | 0, _, _, h => h.elim
  | k + 1, T, H, h => hF _ _ _ _ (fun e T' H' h => by
      cases e with
      | normal => obtain ⟨T'', H'', h1, h2⟩ := h; exact ⟨T'', H'', h1, aloop_mono hF hQ k h2⟩
      | exit i => exact hQ _ _ _ h
      | ret => exact hQ _ _ _ h) h

theorem awp_mono : ∀ (c : Code) {T : Tmps} {H : Heap} {Q1 Q2 : Ex → Tmps → Heap → Prop}, (∀ e T H, Q1 e T H → Q2 e T H) → awp P E n m c T H Q1 → awp P E n m c T H Q2
  | .skip, _, _, _, _, hQ, h => hQ _ _ _ h
  | .label _, _, _, _, _, hQ, h => hQ _ _ _ h
  | .exit _, _, _, _, _, hQ, h => hQ _ _ _ h
  | .ret, _, _, _, _, hQ, h => hQ _ _ _ h
  | .region _ ops false, _, _, _, _, hQ, h => aops_mono _ (hQ .normal) h
  | .region _ ops true, _, _, _, _, hQ, ⟨T', H', hw, T2, ops', hpm, plan, h1, h2⟩ => ⟨T', H', hw, T2, ops', hpm, plan, h1, drun_mono _ _ _ _ _ (hQ .normal) h2⟩
  | .seq x y, _, _, _, _, hQ, h => awp_mono x (fun e T H h => by
      cases e with
      | normal => exact awp_mono y hQ h
      | exit i => exact hQ _ _ _ h
      | ret => exact hQ _ _ _ h) h
  | .cond c x y, T, H, Q1, Q2, hQ, h => by
    simp only [awp] at h ⊢
    split at h
    · split at h
      · rename_i hb; rw [if_pos hb]; exact awp_mono x hQ h
      · rename_i hb; rw [if_neg hb]; exact awp_mono y hQ h
    · exact h.elim
  | .block id x, _, _, _, _, hQ, h => awp_mono x (fun e T H h => by
      cases e with
      | normal => exact hQ _ _ _ h
      | exit i =>
        simp only at h ⊢
        split at h
        · rename_i e; rw [if_pos e]; exact hQ _ _ _ h
        · rename_i e; rw [if_neg e]; exact hQ _ _ _ h
      | ret => exact hQ _ _ _ h) h
  | .loop x, _, _, _, _, hQ, ⟨T', H', h1, k, h2⟩ => ⟨T', H', h1, k, aloop_mono (F := awp P E n m x) (fun _ _ _ _ hq h => awp_mono x hq h) hQ k h2⟩
  | .rangeFunc .., _, _, _, _, _, h => h.elim
  | .scope _, _, _, _, _, _, h => h.elim
  | .goto _, _, _, _, _, _, h => h.elim
  | .refuse _, _, _, _, _, _, h => h.elim

theorem wloop_ind {σ : Type} {x : Code} {T : Tmps} {H : Heap} {Q : Ex → Tmps → Heap → Prop} (μ : σ → Nat) (TT : σ → Tmps) (HH : σ → Heap) (I : σ → Prop) (s0 : σ) (h0 : I s0) (hw : Weak m T H (TT s0) (HH s0))
    (hF : ∀ s, I s → awp P E n m x (TT s) (HH s) fun e T' H' => match e with
      | .normal => ∃ s', I s' ∧ μ s' < μ s ∧ Weak m T' H' (TT s') (HH s')
      | e => Q e T' H') : wloop P E n m x T H Q :=
  ⟨_, _, hw, aloop_ind (F := awp P E n m x) μ TT HH (fun _ _ _ _ hq h => awp_mono x hq h) I hF s0 h0⟩

theorem wloop_count {x : Code} {T : Tmps} {H : Heap} {Q : Ex → Tmps → Heap → Prop} (N : Nat) (TT : Nat → Tmps) (HH : Nat → Heap) (I : Nat → Prop) (h0 : I 0) (hw : Weak m T H (TT 0) (HH 0))
    (hF : ∀ i, i < N → I i → awp P E n m x (TT i) (HH i) fun e T' H' => match e with
      | .normal => I (i + 1) ∧ Weak m T' H' (TT (i + 1)) (HH (i + 1))
      | e => Q e T' H')
    (hN : I N → awp P E n m x (TT N) (HH N) fun e T' H' => match e with
      | .normal => False
      | e => Q e T' H') : wloop P E n m x T H Q := by
  refine wloop_ind (σ := Nat) (fun i => N - i) TT HH (fun i => i ≤ N ∧ I i) 0 ⟨Nat.zero_le _, h0⟩ hw (fun i ⟨hi, hI⟩ => ?_)
  rcases Nat.lt_or_ge i N with h | h
  · exact awp_mono x (fun e T' H' he => by
      cases e with
      | normal => exact ⟨i + 1, ⟨h, he.1⟩, by omega, he.2⟩
      | exit i => exact he
      | ret => exact he) (hF i h hI)
  · have : i = N := by omega
    subst this
    exact awp_mono x (fun e T' H' he => by
      cases e with
      | normal => exact he.elim
      | exit i => exact he
      | ret => exact he) (hN hI)

end


mutual
def V.lower (n : Nat) : V → Bool
  | .d _ => true
  | .nils => true
  | .ptr id _ _ => decide (id < n)
  | .own id _ _ => decide (id < n)
  | .full id _ _ _ => decide (id < n)
  | .agg vs => lowerL n vs
  | .tuple vs => lowerL n vs
  | .func _ vs => lowerL n vs
def lowerL (n : Nat) : List V → Bool
  | [] => true
  | v :: r => V.lower n v && lowerL n r
end

def Blk.lower (n : Nat) : Blk → Bool
  | .box _ cells => lowerL n cells
  | _ => true

mutual
theorem V.ren_below {n : Nat} {ρ : Nat → Nat} (h : ∀ i, i < n → ρ i = i) : ∀ (v : V), V.lower n v = true → v.ren ρ = v
  | .d _, _ => rfl
  | .nils, _ => rfl
  | .ptr id i j, hb => by simp only [V.lower, decide_eq_true_eq] at hb; simp only [V.ren, h id hb]
  | .own id i j, hb => by simp only [V.lower, decide_eq_true_eq] at hb; simp only [V.ren, h id hb]
  | .full id i j c, hb => by simp only [V.lower, decide_eq_true_eq] at hb; simp only [V.ren, h id hb]
  | .agg vs, hb => by simp only [V.lower] at hb; simp only [V.ren, renL_below h vs hb]
  | .tuple vs, hb => by simp only [V.lower] at hb; simp only [V.ren, renL_below h vs hb]
  | .func f vs, hb => by simp only [V.lower] at hb; simp only [V.ren, renL_below h vs hb]
theorem renL_below {n : Nat} {ρ : Nat → Nat} (h : ∀ i, i < n → ρ i = i) : ∀ (vs : List V), lowerL n vs = true → renL ρ vs = vs
  | [], _ => rfl
  | v :: r, hb => by
    simp only [lowerL, Bool.and_eq_true] at hb
    simp only [renL, V.ren_below h v hb.1, renL_below h r hb.2]
end

theorem RenL.refl_below {n : Nat} {ρ : Nat → Nat} {H' : Heap} (h : ∀ i, i < n → ρ i = i) : ∀ (vs : List V), lowerL n vs = true → RenL ρ H' vs vs
  | [], _ => .nil
  | v :: r, hb => by
    simp only [lowerL, Bool.and_eq_true] at hb
    refine .cons ?_ (RenL.refl_below h r hb.2)
    have := Ren.same (ρ := ρ) (H' := H') v
    rwa [V.ren_below h v hb.1] at this

theorem hget_take : ∀ (H : Heap) (n i : Nat), hget (H.take n) i = if i < n then hget H i else .unborn
  | [], n, i => by simp [hget]
  | b :: H, 0, i => by simp [hget]
  | b :: H, n + 1, 0 => by simp [hget]
  | b :: H, n + 1, i + 1 => by simp [hget, hget_take H n i]

theorem tget_mem {T' : Tmps} {t : Nat} : tget T' t = .d .undef ∨ ∃ q ∈ T', q.1 = t ∧ tget T' t = q.2 := by
  induction T' with
  | nil => exact .inl rfl
  | cons q r ih =>
    simp only [tget]
    split
    · rename_i e; exact .inr ⟨q, List.mem_cons_self .., e.symm, rfl⟩
    · rcases ih with h | ⟨q', h1, h2, h3⟩
      · exact .inl h
      · exact .inr ⟨q', List.mem_cons_of_mem _ h1, h2, h3⟩

theorem Weak.trim {T T' : Tmps} {H : Heap} (n : Nat) (hT : ∀ q ∈ T', tget T q.1 = q.2 ∧ V.lower n q.2 = true) (hB : ∀ b ∈ H.take n, Blk.lower n b = true) : Weak 0 T H T' (H.take n) := by
  let ρ : Nat → Nat := fun i => if i < n then i else i + H.length
  have hρ : ∀ i, i < n → ρ i = i := fun i h => by simp [ρ, h]
  have hmem : ∀ i, i < n → hget H i ≠ .unborn → hget H i ∈ H.take n := fun i h hu => by
    clear hT hB hρ
    have hlt : i < H.length := by
      rcases Nat.lt_or_ge i H.length with h | h
      · exact h
      · exact absurd (hget_length H i h) hu
    have : hget H i = H[i] := by
      clear h hu
      induction H generalizing i with
      | nil => simp at hlt
      | cons b H ih =>
        cases i with
        | zero => rfl
        | succ i => simpa [hget] using ih i (by simpa using hlt)
    rw [this]
    exact List.mem_take_iff_getElem.2 ⟨i, by omega, rfl⟩
  refine Weak.ren ρ (fun t => ?_) (fun i hu => ?_) (fun i hu => ?_) (fun i j hi hj he hu => ?_)
  · rcases tget_mem (T' := T') (t := t) with h | ⟨q, h1, rfl, h3⟩
    · rw [h]; exact .undef _
    · obtain ⟨h4, h5⟩ := hT q h1
      rw [h3, h4]
      have := Ren.same (ρ := ρ) (H' := H.take n) q.2
      rwa [V.ren_below hρ q.2 h5] at this
  · rw [hget_take] at hu
    by_cases hi : i < n
    · rw [if_pos hi] at hu
      have hb := hB _ (hmem i hi hu)
      have hg : hget (H.take n) i = hget H i := by rw [hget_take, if_pos hi]
      cases hx : hget H i with
      | unborn => exact absurd hx hu
      | dead => exact .dead (by rw [hg, hx])
      | box fz cells => rw [hx] at hb; exact .box fz cells cells (by rw [hg, hx]) (by rw [hρ i hi, hx]) (RenL.refl_below hρ cells hb)
      | dat fz sz els => exact .dat fz sz els (by rw [hg, hx]) (by rw [hρ i hi, hx])
    · rw [if_neg hi] at hu; exact absurd rfl hu
  · rw [hget_take] at hu
    by_cases hi : i < n
    · rw [if_pos hi] at hu; rw [hρ i hi]; exact hu
    · simp only [ρ]; rw [if_neg hi]; exact hget_length H _ (by omega)
  · rw [hget_take] at hi hj
    have h1 : i < n := Classical.byContradiction fun h => by rw [if_neg h] at hi; exact hi rfl
    have h2 : j < n := Classical.byContradiction fun h => by rw [if_neg h] at hj; exact hj rfl
    rwa [hρ i h1, hρ j h2] at he

theorem Weak.trims {T T' : Tmps} {H H' : Heap} (n : Nat) (hH : H.take n = H') (hT : ∀ q ∈ T', tget T q.1 = q.2 ∧ V.lower n q.2 = true) (hB : ∀ b ∈ H', Blk.lower n b = true) : Weak 0 T H T' H' := by
  subst hH; exact Weak.trim n hT hB

end Go.Proofs.Ytaejlmengfahnaa.AM

set_option linter.all false
namespace Go.Proofs.Ytaejlmengfahnaa.AM
open Go Go.RowKit

def Blk.ren (ρ : Nat → Nat) : Blk → Blk
  | .box fz cells => .box fz (renL ρ cells)
  | b => b

theorem renL_map (ρ : Nat → Nat) : ∀ (vs : List V), renL ρ vs = vs.map (V.ren ρ)
  | [] => rfl
  | v :: r => by simp [renL, renL_map ρ r]

section
variable {P : Program} {E : Env} {n m : Nat} {φ φ' : Nat → Option Loc} {S S' : Nat → Prop} {H H' : Heap} {w : World} {ρ : Nat → Nat}

theorem Blk.ren_width (b : Blk) : (b.ren ρ).width = b.width := by
  cases b <;> simp [Blk.ren, Blk.width, renL_map]

theorem RV.shift (hs : KeepS S w S' w) (hb : ∀ i, hget H i ≠ .unborn → hget H' (ρ i) = (hget H i).ren ρ ∧ φ' (ρ i) = φ i) {v : V} {c : Value} (h : RV φ S H w v c) : RV φ' S' H' w (v.ren ρ) c := by
  have hnu : ∀ i, hget H i ≠ .unborn → hget H' (ρ i) ≠ .unborn := fun i hi => by
    rw [(hb i hi).1]
    cases hx : hget H i <;> simp [Blk.ren]
    exact hi hx
  induction h with
  | d x c hx => exact .d x c (hx.keep hs)
  | nils => exact .nils
  | ptr id i j A hu h =>
    refine .ptr (ρ id) i j A (hnu id hu) (fun sz hw => ?_)
    obtain ⟨e1, e2⟩ := hb id hu
    rw [e1, Blk.ren_width] at hw
    rw [e2]; exact h sz hw
  | own id off len l cap A hu h =>
    refine .own (ρ id) off len l cap A (hnu id hu) (fun fz sz els hw => ?_)
    obtain ⟨e1, e2⟩ := hb id hu
    rw [e2]
    refine h fz sz els ?_
    rw [e1] at hw
    cases hx : hget H id <;> rw [hx] at hw <;> simp [Blk.ren] at hw
    obtain ⟨rfl, rfl, rfl⟩ := hw
    rfl
  | full id off len k A hu h =>
    refine .full (ρ id) off len k A (hnu id hu) (fun fz sz els hw => ?_)
    obtain ⟨e1, e2⟩ := hb id hu
    rw [e2]
    refine h fz sz els ?_
    rw [e1] at hw
    cases hx : hget H id <;> rw [hx] at hw <;> simp [Blk.ren] at hw
    obtain ⟨rfl, rfl, rfl⟩ := hw
    rfl
  | agg vs cs hl _ ih => exact .agg _ cs (by simp [renL_map, hl]) (fun i v c hv hc => by
      simp only [renL_map, List.getElem?_map] at hv
      cases hx : vs[i]? with
      | none => simp [hx] at hv
      | some v0 => simp [hx] at hv; subst hv; exact ih i v0 c hx hc)
  | tuple vs cs hl _ ih => exact .tuple _ cs (by simp [renL_map, hl]) (fun i v c hv hc => by
      simp only [renL_map, List.getElem?_map] at hv
      cases hx : vs[i]? with
      | none => simp [hx] at hv
      | some v0 => simp [hx] at hv; subst hv; exact ih i v0 c hx hc)
  | func f vs cs hl _ ih => exact .func f _ cs (by simp [renL_map, hl]) (fun i v c hv hc => by
      simp only [renL_map, List.getElem?_map] at hv
      cases hx : vs[i]? with
      | none => simp [hx] at hv
      | some v0 => simp [hx] at hv; subst hv; exact ih i v0 c hx hc)

theorem BR.shift (hs : KeepS S w S' w) (hb : ∀ i, hget H i ≠ .unborn → hget H' (ρ i) = (hget H i).ren ρ ∧ φ' (ρ i) = φ i) {i : Nat} {b : Blk} (hφ : φ' (ρ i) = φ i) (hS : ∀ L, φ i = some L → (S' L.blk ↔ S L.blk)) (h : BR φ S H w i b) : BR φ' S' H' w (ρ i) (b.ren ρ) := by
  cases b with
  | unborn => exact hφ.trans h
  | dead => exact hφ.trans h
  | box fz cells =>
    obtain ⟨L, cs, t, h1, h2, h3, h4, h5, h6⟩ := h
    refine ⟨L, cs, t, hφ.trans h1, h2, h3, by simp [renL_map, h4], fun k v c hk hc => ?_, (hS L h1).trans h6⟩
    simp only [renL_map, List.getElem?_map] at hk
    cases hx : cells[k]? with
    | none => simp [hx] at hk
    | some v0 => simp [hx] at hk; subst hk; exact (h5 k v0 c hx hc).shift hs hb
  | dat fz sz els =>
    rcases h with ⟨h1, h2⟩ | ⟨L, cs, t, h1, h2, h3, h4, h5, h6⟩
    · exact .inl ⟨h1, hφ.trans h2⟩
    · exact .inr ⟨L, cs, t, hφ.trans h1, h2, h3, h4, fun i e k x he hx => by
        obtain ⟨c, q1, q2⟩ := h5 i e k x he hx
        exact ⟨c, q1, q2.keep hs⟩, (hS L h1).trans h6⟩

def FSpec (P : Program) (f : Nat) (args : List D) (r : V) (H1 : Heap) : Prop :=
  Callable P f ∧ ∀ (S0 : Nat → Prop) (w : World) (cs : List Value), (∀ B, S0 B → B < w.heap.size) → args.length = cs.length →
    (∀ (i : Nat) (d : D) (c : Value), args[i]? = some d → cs[i]? = some c → RD S0 w d c) →
    Calls P f cs.toArray w fun e w' => ∃ c φ1 S1, e = .returned c ∧ RV φ1 S1 H1 w' r c ∧ HRel ⟨w.heap.size, fun _ => False, S0⟩ φ1 S1 H1 w' ∧ Kp ⟨w.heap.size, fun _ => False, S0⟩ w w'

def shiftH (k : Nat) (H1 : Heap) : Heap := H1.map (Blk.ren (· + k))

theorem hget_app : ∀ (A B : Heap) (i : Nat), hget (A ++ B) i = if i < A.length then hget A i else hget B (i - A.length)
  | [], B, i => by simp
  | a :: A, B, 0 => by simp [hget]
  | a :: A, B, i + 1 => by simp only [List.cons_append, hget, List.length_cons]; rw [hget_app A B i]; simp [Nat.add_lt_add_iff_right]

theorem hget_shift : ∀ (H1 : Heap) (k i : Nat), hget (shiftH k H1) i = (hget H1 i).ren (· + k)
  | [], k, i => rfl
  | b :: H1, k, 0 => rfl
  | b :: H1, k, i + 1 => hget_shift H1 k i

theorem FSpec.rspec {f : Nat} {vs : List V} {ds : List D} {r : V} {H1 : Heap} (n : Nat) (hx : xports H n vs = some ds) (h : FSpec P f ds r H1) :
    RSpec P f vs H (r.ren (· + (freeze H (tidss H n vs)).length)) (freeze H (tidss H n vs) ++ shiftH (freeze H (tidss H n vs)).length H1) := by
  generalize hf : AM.freeze H (tidss H n vs) = Hf
  refine ⟨h.1, ?_⟩
  intro C φ S w cs hH hv
  obtain ⟨S1, p1, p2, p3⟩ := HRel.freeze hH (tidss H n vs) hH
  rw [hf] at p1 p2
  obtain ⟨q1, q2⟩ := xports_rel (S1 := S1) hH (fun B hB => (p2.keepS B hB (hH.low B hB)).1) n vs cs ds p3 hv hx
  refine (h.2 S1 w cs p1.low q1 q2).mono ?_
  rintro e w' ⟨c, φ1, S2, rfl, hr, hH1, hk⟩
  have hsame : ∀ B, B < w.heap.size → w'.heap[B]? = w.heap[B]? := fun B hB => hk.block B hB (fun h => h)
  let φ' : Nat → Option Loc := fun i => if i < Hf.length then φ i else φ1 (i - Hf.length)
  let S' : Nat → Prop := fun B => S1 B ∨ S2 B
  have hlo : ∀ i, i < Hf.length → φ' i = φ i := fun i h => by simp [φ', h]
  have hhi : ∀ i, φ' (i + Hf.length) = φ1 i := fun i => by simp only [φ']; rw [if_neg (by omega), Nat.add_sub_cancel]
  have hgl : ∀ i, i < Hf.length → hget (Hf ++ shiftH Hf.length H1) i = hget Hf i := fun i h => by rw [hget_app, if_pos h]
  have hgh : ∀ i, hget (Hf ++ shiftH Hf.length H1) (i + Hf.length) = (hget H1 i).ren (· + Hf.length) := fun i => by
    rw [hget_app, if_neg (by omega), Nat.add_sub_cancel, hget_shift]
  have hS2 : ∀ B, S2 B → S1 B ∨ w.heap.size ≤ B := fun B hB => by
    rcases hH1.vis B hB with h | h | h
    · exact .inl h
    · exact h.elim
    · exact .inr h
  have hnew : ∀ i L, φ1 i = some L → w.heap.size ≤ L.blk := fun i L hL => by
    rcases hH1.own i L hL with h | h
    · exact h.elim
    · exact h
  have hst : Step φ S1 Hf w φ' S' (Hf ++ shiftH Hf.length H1) w' := ⟨fun B hB hlt => ⟨.inl hB, hsame B hlt⟩, fun i hi => by
    have hlt : i < Hf.length := Classical.byContradiction fun hn => hi (hget_length Hf i (by omega))
    rw [hgl i hlt, hlo i hlt]
    exact (Step.refl (φ := φ) (S := S1) (H := Hf) (w := w)).keepH i hi⟩
  have hks : KeepS S2 w' S' w' := fun B hB _ => ⟨.inr hB, rfl⟩
  have hbs : ∀ i, hget H1 i ≠ .unborn → hget (Hf ++ shiftH Hf.length H1) (i + Hf.length) = (hget H1 i).ren (· + Hf.length) ∧ φ' (i + Hf.length) = φ1 i := fun i _ => ⟨hgh i, hhi i⟩
  refine ⟨c, φ', S', rfl, RV.shift (ρ := (· + Hf.length)) hks hbs hr, ⟨Nat.le_trans hH.n0 hk.size, ?_, ?_, ?_, ?_, ?_⟩, p2.trans hst (Nat.le_refl _) hk.size, ⟨hk.os, hk.tape, hk.output, hk.size, fun B hB _ => hsame B (Nat.lt_of_lt_of_le hB hH.n0)⟩⟩
  · intro i L hL
    by_cases h : i < Hf.length
    · rw [hlo i h] at hL; exact hH.own i L hL
    · have : φ1 (i - Hf.length) = some L := by simpa [φ', h] using hL
      exact .inr (Nat.le_trans hH.n0 (hnew _ _ this))
  · rintro B (hB | hB)
    · exact p1.vis B hB
    · rcases hS2 B hB with h | h
      · exact p1.vis B h
      · exact .inr (.inr (Nat.le_trans hH.n0 h))
  · intro i j L L' hL hL' he
    by_cases h : i < Hf.length
    · rw [hlo i h] at hL
      by_cases h' : j < Hf.length
      · rw [hlo j h'] at hL'; exact hH.inj i j L L' hL hL' he
      · have h2 : φ1 (j - Hf.length) = some L' := by simpa [φ', h'] using hL'
        have := hnew _ _ h2; have := hH.lt hL; omega
    · have h1 : φ1 (i - Hf.length) = some L := by simpa [φ', h] using hL
      by_cases h' : j < Hf.length
      · rw [hlo j h'] at hL'
        have := hnew _ _ h1; have := hH.lt hL'; omega
      · have h2 : φ1 (j - Hf.length) = some L' := by simpa [φ', h'] using hL'
        have := hH1.inj _ _ L L' h1 h2 he
        omega
  · intro i
    by_cases h : i < Hf.length
    · rw [hgl i h]
      refine (p1.blk i).keep hst (hlo i h) (fun L hL => ⟨hsame _ (hH.lt hL), ⟨fun hh => ?_, .inl⟩⟩)
      rcases hh with hh | hh
      · exact hh
      · rcases hS2 _ hh with h | h
        · exact h
        · have := hH.lt hL; omega
    · obtain ⟨j, rfl⟩ : ∃ j, i = j + Hf.length := ⟨i - Hf.length, by omega⟩
      rw [hgh j]
      refine BR.shift (ρ := (· + Hf.length)) hks hbs (hhi j) (fun L hL => ⟨fun hh => ?_, .inr⟩) (hH1.blk j)
      rcases hh with hh | hh
      · have := p1.low _ hh; have := hnew _ _ hL; omega
      · exact hh
  · rintro B (hB | hB)
    · exact Nat.lt_of_lt_of_le (p1.low B hB) hk.size
    · exact hH1.low B hB

theorem FSpec.dspec {f : Nat} {vs : List V} {ds : List D} {r : V} {fz : Bool} {sz : Nat} {els : List D} {nid : Nat} (hx : xports H 40 vs = some ds) (h : FSpec P f ds r [.dat fz sz els]) (hi : tidss H 40 vs = []) :
    DSpec P f vs H nid (r.ren (fun _ => nid)) (.dat fz sz els) := by
  intro H' hm hu
  refine ⟨h.1, ?_⟩
  intro C φ S w cs hH hv
  have hx' := xports_more hm 40 _ ds hx
  have hi' : tidss H' 40 vs = [] := tidss_nil 40 _ hi
  obtain ⟨q1, q2⟩ := xports_rel (S1 := S) hH (fun B hB => hB) 40 vs cs ds (fun id hid => by rw [hi'] at hid; simp at hid) hv hx'
  refine (h.2 S w cs hH.low q1 q2).mono ?_
  rintro e w' ⟨c, φ1, S2, rfl, hr, hH1, hk⟩
  have hsame : ∀ B, B < w.heap.size → w'.heap[B]? = w.heap[B]? := fun B hB => hk.block B hB (fun h => h)
  let φ' : Nat → Option Loc := fun i => if i = nid then φ1 0 else φ i
  let S' : Nat → Prop := fun B => S B ∨ S2 B
  have hφn : φ' nid = φ1 0 := by simp [φ']
  have hφo : ∀ i, i ≠ nid → φ' i = φ i := fun i h => by simp [φ', h]
  have hS2 : ∀ B, S2 B → S B ∨ w.heap.size ≤ B := fun B hB => by
    rcases hH1.vis B hB with h | h | h
    · exact .inl h
    · exact h.elim
    · exact .inr h
  have hnew : ∀ i L, φ1 i = some L → w.heap.size ≤ L.blk := fun i L hL => by
    rcases hH1.own i L hL with h | h
    · exact h.elim
    · exact h
  have hst : Step φ S H' w φ' S' (hput H' nid (.dat fz sz els)) w' := ⟨fun B hB hlt => ⟨.inl hB, hsame B hlt⟩, fun i hi => by
    have hne : i ≠ nid := fun e => hi (e ▸ hu)
    rw [hget_hput, if_neg hne, hφo i hne]
    exact (Step.refl (φ := φ) (S := S) (H := H') (w := w)).keepH i hi⟩
  have hks : KeepS S2 w' S' w' := fun B hB _ => ⟨.inr hB, rfl⟩
  have hbs : ∀ i, hget [Blk.dat fz sz els] i ≠ .unborn → hget (hput H' nid (.dat fz sz els)) ((fun _ => nid) i) = (hget [Blk.dat fz sz els] i).ren (fun _ => nid) ∧ φ' ((fun _ => nid) i) = φ1 i := fun i hi => by
    cases i with
    | zero => exact ⟨by simp [hget_hput, hget, Blk.ren], hφn⟩
    | succ i => exact absurd rfl hi
  refine ⟨c, φ', S', rfl, RV.shift (ρ := fun _ => nid) hks hbs hr, ⟨Nat.le_trans hH.n0 hk.size, ?_, ?_, ?_, ?_, ?_⟩, hst, ⟨hk.os, hk.tape, hk.output, hk.size, fun B hB _ => hsame B (Nat.lt_of_lt_of_le hB hH.n0)⟩⟩
  · intro i L hL
    by_cases h : i = nid
    · subst h; rw [hφn] at hL; exact .inr (Nat.le_trans hH.n0 (hnew _ _ hL))
    · rw [hφo i h] at hL; exact hH.own i L hL
  · rintro B (hB | hB)
    · exact hH.vis B hB
    · rcases hS2 B hB with h | h
      · exact hH.vis B h
      · exact .inr (.inr (Nat.le_trans hH.n0 h))
  · intro i j L L' hL hL' he
    by_cases h : i = nid
    · subst h; rw [hφn] at hL
      by_cases h' : j = i
      · exact h'.symm
      · rw [hφo j h'] at hL'; have := hnew _ _ hL; have := hH.lt hL'; omega
    · rw [hφo i h] at hL
      by_cases h' : j = nid
      · subst h'; rw [hφn] at hL'; have := hnew _ _ hL'; have := hH.lt hL; omega
      · rw [hφo j h'] at hL'; exact hH.inj i j L L' hL hL' he
  · intro i
    by_cases h : i = nid
    · subst h
      rw [hget_hput, if_pos rfl]
      exact BR.shift (ρ := fun _ => i) (b := .dat fz sz els) (i := 0) hks hbs hφn (fun L hL => ⟨fun hh => by
        rcases hh with hh | hh
        · have := hH.low _ hh; have := hnew _ _ hL; omega
        · exact hh, .inr⟩) (hH1.blk 0)
    · rw [hget_hput, if_neg h]
      refine (hH.blk i).keep hst (hφo i h) (fun L hL => ⟨hsame _ (hH.lt hL), ⟨fun hh => ?_, .inl⟩⟩)
      rcases hh with hh | hh
      · exact hh
      · rcases hS2 _ hh with h | h
        · exact h
        · have := hH.lt hL; omega
  · rintro B (hB | hB)
    · exact Nat.lt_of_lt_of_le (hH.low B hB) hk.size
    · exact hH1.low B hB

theorem dcall_own {f : Nat} {vs : List V} {ds : List D} {r : V} {fz : Bool} {sz : Nat} {els : List D} {nid : Nat} {DK : V → Blk → Prop} (hx : xports H 40 vs = some ds) (h : FSpec P f ds r [.dat fz sz els]) (hi : tidss H 40 vs = [])
    (hK : DK (r.ren (fun _ => nid)) (.dat fz sz els)) : dcall P f vs H nid DK := ⟨_, _, FSpec.dspec hx h hi, hK⟩
theorem dcall_own' {f : Nat} {vs : List V} {ds : List D} {r : V} {fz : Bool} {sz : Nat} {els : List D} {nid : Nat} {DK : V → Blk → Prop} (h : FSpec P f ds r [.dat fz sz els]) (hi : tidss H 40 vs = [])
    (hK : DK (r.ren (fun _ => nid)) (.dat fz sz els)) (hx : xports H 40 vs = some ds := by first | rfl | (simp only [xports, xport, hget]; rfl)) : dcall P f vs H nid DK := dcall_own hx h hi hK

def FinF (E : Env) (rs : List ResultVar) (r : V) (H1 : Heap) : Ex → Tmps → Heap → Prop
  | .exit _, _, _ => False
  | _, T, H => ∃ v, resOf E T H rs = some v ∧ Weak 0 [(0, v)] H [(0, r)] H1

theorem FSpec.of_awp {f : Nat} {fn : Func} {body : Code} {args : List D} {r : V} {H1 : Heap} (hE : EOk P E) (hmix : P.follows .mixedOrders = true) (hf : P.funcs[f]? = some fn) (hb : fn.body = some body) (hcall : Callable P f) (hn : args.length ≤ fn.ntmps)
    (h : awp P E fn.ntmps 0 body (initT 0 args) [] (FinF E fn.results.toList r H1)) : FSpec P f args r H1 := by
  refine ⟨hcall, fun S0 w cs hS0 hlen hrel => ?_⟩
  have hsz : (cs.toArray ++ Array.replicate (fn.ntmps - cs.toArray.size) undef).size = fn.ntmps := by simp; omega
  have hst : Stands ⟨w.heap.size, fun _ => False, S0⟩ fn.ntmps (initT 0 args) [] (fun _ => none) S0 { tmps := cs.toArray ++ Array.replicate (fn.ntmps - cs.toArray.size) undef, defers := [] } w := by
    refine ⟨⟨Nat.le_refl _, (fun id L h => by cases h), (fun B hB => .inl hB), (fun i j L L' h => by cases h), (fun id => rfl), hS0⟩, fun t => ?_, hsz, rfl⟩
    rw [initT_get]
    simp only [Nat.zero_le, if_true, Nat.sub_zero]
    by_cases ht : t < args.length
    · have hc : t < cs.length := by omega
      rw [List.getElem?_eq_getElem ht]
      have : (cs.toArray ++ Array.replicate (fn.ntmps - cs.toArray.size) undef).getD t undef = cs[t] := by
        simp [Array.getElem?_append, hc]
      rw [this]
      exact .d _ _ (hrel t _ _ (List.getElem?_eq_getElem ht) (List.getElem?_eq_getElem hc))
    · rw [List.getElem?_eq_none (by omega)]
      exact .d _ _ (.undef _)
  refine calls_of_wp hf hb (wp_mono (awp_sound (m := 0) hE hmix body hst h) ?_)
  rintro e a' w' ⟨e', T', H', φ', S', hq, rfl, hst', hs', hk'⟩
  have fin : (∃ v, resOf E T' H' fn.results.toList = some v ∧ Weak 0 [(0, v)] H' [(0, r)] H1) → a'.defers = [] ∧ ∃ v, (results fn a'.tmps).run P w' = .ok v w' ∧
      ∃ c φ1 S1, Ending.returned v = .returned c ∧ RV φ1 S1 H1 w' r c ∧ HRel ⟨w.heap.size, fun _ => False, S0⟩ φ1 S1 H1 w' ∧ Kp ⟨w.heap.size, fun _ => False, S0⟩ w w' := by
    rintro ⟨v, hv, hx⟩
    obtain ⟨c, hrun, hc⟩ := resOf_sound hE hst' hv
    obtain ⟨φ1, S1, g1, g2, g3⟩ := hx _ φ' S' w' { tmps := #[c], defers := [] } hst'.heap (fun t => by
      simp only [tget]
      split
      · rename_i e; subst e; exact hc
      · exact .d _ _ (.undef _))
    refine ⟨hst'.defers, c, hrun, c, φ1, S1, rfl, ?_, g1, hk'⟩
    have := g2 0
    simpa [tget] using this
  cases e' with
  | normal => exact fin hq
  | ret => exact fin hq
  | exit id => exact hq.elim

theorem acall_own {f : Nat} {vs : List V} {ds : List D} {r : V} {H1 : Heap} {dst : Option Nat} {T : Tmps} {K : Tmps → Heap → Prop} (hx : xports H 40 vs = some ds) (h : FSpec P f ds r H1)
    (hK : K (tput n T dst (r.ren (· + (freeze H (tidss H 40 vs)).length))) (freeze H (tidss H 40 vs) ++ shiftH (freeze H (tidss H 40 vs)).length H1)) : acall P n f vs dst T H K :=
  acall_r (FSpec.rspec 40 hx h) hK
theorem acall_own' {f : Nat} {vs : List V} {ds : List D} {r : V} {H1 : Heap} {dst : Option Nat} {T : Tmps} {K : Tmps → Heap → Prop} (h : FSpec P f ds r H1)
    (hK : K (tput n T dst (r.ren (· + (freeze H (tidss H 40 vs)).length))) (freeze H (tidss H 40 vs) ++ shiftH (freeze H (tidss H 40 vs)).length H1)) (hx : xports H 40 vs = some ds := by first | rfl | (simp only [xports, xport, hget]; rfl)) : acall P n f vs dst T H K := acall_own hx h hK

def afinF (E : Env) (rs : List ResultVar) (r : V) (H1 : Heap) (T : Tmps) (H : Heap) : Prop := ∃ v, resOf E T H rs = some v ∧ Weak 0 [(0, v)] H [(0, r)] H1
theorem z37 {rs r H1 T} : FinF E rs r H1 .ret T H = afinF E rs r H1 T H := rfl
theorem z38 {rs r H1 T} : FinF E rs r H1 .normal T H = afinF E rs r H1 T H := rfl
theorem z39 {rs r H1 T} : afinF E rs r H1 T H = (match resOf E T H rs with | some v => Weak 0 [(0, v)] H [(0, r)] H1 | none => False) := by
  unfold afinF
  cases resOf E T H rs <;> simp

def pickρ (l : List Nat) (k : Nat) : Nat → Nat := fun i => (l[i]?).getD (i + k)

theorem Weak.pick {T T' : Tmps} {H H' : Heap} (l : List Nat) (hnd : l.Nodup) (hlt : ∀ i ∈ l, i < H.length ∨ H.length + H'.length ≤ i) (hlen : l.length = H'.length) (hT : ∀ q ∈ T', Ren (pickρ l (H.length + H'.length)) H' q.2 (tget T q.1)) (hB : ∀ i, i < H'.length → RenB (pickρ l (H.length + H'.length)) H H' i) : Weak 0 T H T' H' := by
  have hborn : ∀ i, i < H'.length → hget H' i ≠ .unborn := fun i hi e => by
    rcases hB i hi with ⟨_, _, _, h, _⟩ | ⟨_, _, _, h, _⟩ | ⟨_, h, _⟩ | h <;> rw [e] at h <;> cases h
  have hin : ∀ i, i < H'.length → ∃ x, l[i]? = some x ∧ pickρ l (H.length + H'.length) i = x := fun i hi => by
    have : i < l.length := by omega
    exact ⟨l[i], List.getElem?_eq_getElem this, by simp [pickρ, List.getElem?_eq_getElem this]⟩
  have hno : ∀ i, hget H' i ≠ .unborn → i < H'.length := fun i h => Classical.byContradiction fun hn => h (hget_length H' i (by omega))
  refine Weak.ren (pickρ l (H.length + H'.length)) (fun t => ?_) (fun i hu => hB i (hno i hu)) (fun i hu => ?_) (fun i j hi hj he hu => ?_)
  · rcases tget_mem (T' := T') (t := t) with h | ⟨q, h1, rfl, h3⟩
    · rw [h]; exact .undef _
    · rw [h3]; exact hT q h1
  · have : H'.length ≤ i := Classical.byContradiction fun hn => hborn i (by omega) hu
    have h2 : pickρ l (H.length + H'.length) i = i + (H.length + H'.length) := by simp [pickρ, List.getElem?_eq_none (by omega : l.length ≤ i)]
    rw [h2]; exact hget_length H _ (by omega)
  · obtain ⟨x, h1, h2⟩ := hin i (hno i hi)
    obtain ⟨y, h3, h4⟩ := hin j (hno j hj)
    rw [h2, h4] at he
    subst he
    have a1 := (List.getElem?_eq_some_iff.1 h1)
    have a2 := (List.getElem?_eq_some_iff.1 h3)
    exact (List.getElem_inj hnd).1 (a1.2.trans a2.2.symm)

end
end Go.Proofs.Ytaejlmengfahnaa.AM

set_option linter.all false
namespace Go.Proofs.Ytaejlmengfahnaa.AM
open Go Go.RowKit

section
variable {P : Program} {E : Env} {n m : Nat} {φ φ' : Nat → Option Loc} {S S' : Nat → Prop} {H H' : Heap} {w : World} {ρ : Nat → Nat}

def frρ (l : List Nat) (k : Nat) : Nat → Nat := fun j => (l[j]?).getD (k + (j - l.length))

def putL (H : Heap) : List Nat → List Blk → Heap
  | i :: l, b :: bs => putL (hput H i b) l bs
  | _, _ => H

def frameH (H : Heap) (l : List Nat) (H1 : Heap) : Heap := putL H l (H1.map (Blk.ren (frρ l H.length))) ++ (H1.drop l.length).map (Blk.ren (frρ l H.length))

theorem hput_length : ∀ (H : Heap) (i : Nat) (b : Blk), i < H.length → (hput H i b).length = H.length
  | [], i, b, h => by simp at h
  | x :: H, 0, b, h => rfl
  | x :: H, i + 1, b, h => by simp only [hput, List.length_cons, hput_length H i b (by simpa using h)]

theorem putL_length : ∀ (l : List Nat) (bs : List Blk) (H : Heap), (∀ i ∈ l, i < H.length) → (putL H l bs).length = H.length
  | [], bs, H, _ => by cases bs <;> rfl
  | i :: l, [], H, _ => rfl
  | i :: l, b :: bs, H, h => by
    have h1 := hput_length H i b (h i (List.mem_cons_self ..))
    simp only [putL]
    rw [putL_length l bs (hput H i b) (fun j hj => by rw [h1]; exact h j (List.mem_cons_of_mem _ hj)), h1]

theorem putL_not : ∀ (l : List Nat) (bs : List Blk) (H : Heap) (i : Nat), i ∉ l → hget (putL H l bs) i = hget H i
  | [], bs, H, i, _ => by cases bs <;> rfl
  | j :: l, [], H, i, _ => rfl
  | j :: l, b :: bs, H, i, h => by
    simp only [List.mem_cons, not_or] at h
    simp only [putL]
    rw [putL_not l bs _ i h.2, hget_hput, if_neg h.1]

theorem putL_at : ∀ (l : List Nat) (bs : List Blk) (H : Heap) (i j : Nat) (b : Blk), l.Nodup → l[j]? = some i → bs[j]? = some b → hget (putL H l bs) i = b
  | [], bs, H, i, j, b, _, h, _ => by simp at h
  | k :: l, [], H, i, j, b, _, _, h => by simp at h
  | k :: l, b0 :: bs, H, i, j, b, hnd, hl, hb => by
    simp only [putL]
    have hnd' := List.nodup_cons.1 hnd
    cases j with
    | zero =>
      simp at hl hb
      subst hl; subst hb
      rw [putL_not l bs _ k hnd'.1, hget_hput, if_pos rfl]
    | succ j => exact putL_at l bs _ i j b hnd'.2 (by simpa using hl) (by simpa using hb)

theorem hget_getElem : ∀ (H : Heap) (i : Nat), hget H i = (H[i]?).getD .unborn
  | [], i => rfl
  | b :: H, 0 => rfl
  | b :: H, i + 1 => by simp only [hget, List.getElem?_cons_succ]; exact hget_getElem H i

theorem RenL.of_ren : ∀ (vs : List V), RenL ρ H' vs (renL ρ vs)
  | [] => .nil
  | v :: r => .cons (.same v) (RenL.of_ren r)

theorem renL_ds (l : List D) : renL ρ (l.map V.d) = l.map V.d := by
  rw [renL_map, List.map_map]; rfl

theorem lowerL_ds (k : Nat) : ∀ (l : List D), lowerL k (l.map V.d) = true
  | [] => rfl
  | _ :: r => by simp [lowerL, V.lower, lowerL_ds k r]

theorem frρ_lt {l : List Nat} {k j : Nat} (h : j < l.length) : frρ l k j = l[j] := by simp [frρ, h]
theorem frρ_ge {l : List Nat} {k j : Nat} (h : l.length ≤ j) : frρ l k j = k + (j - l.length) := by simp [frρ, List.getElem?_eq_none h]

theorem NSpec.frame {f : Nat} {vs0 : List V} {H0 : Heap} {Qf : V → Heap → Prop} (h : NSpec P f vs0 H0 Qf) (l : List Nat) (hnd : l.Nodup) (hlen : l.length = H0.length) (hlen1 : ∀ r H1, Qf r H1 → H0.length ≤ H1.length) (hlt : ∀ i ∈ l, i < H.length)
    (hB : ∀ j, j < H0.length → hget H0 j ≠ .unborn ∧ hget H (frρ l H.length j) = (hget H0 j).ren (frρ l H.length)) :
    NSpec P f (renL (frρ l H.length) vs0) H (fun r' H' => ∃ r H1, Qf r H1 ∧ r' = r.ren (frρ l H.length) ∧ H' = frameH H l H1) := by
  have ρin : ∀ j, j < H0.length → frρ l H.length j < H.length ∧ frρ l H.length j ∈ l := fun j hj => by
    rw [frρ_lt (by omega)]; exact ⟨hlt _ (List.getElem_mem _), List.getElem_mem _⟩
  have ρout : ∀ j, H0.length ≤ j → H.length ≤ frρ l H.length j := fun j hj => by rw [frρ_ge (by omega)]; omega
  have ρinj : ∀ i j, frρ l H.length i = frρ l H.length j → i = j := fun i j e => by
    by_cases hi : i < H0.length
    · by_cases hj : j < H0.length
      · rw [frρ_lt (by omega), frρ_lt (by omega)] at e; exact (List.getElem_inj hnd).1 e
      · have := ρin i hi; have := ρout j (by omega); omega
    · by_cases hj : j < H0.length
      · have := ρin j hj; have := ρout i (by omega); omega
      · rw [frρ_ge (by omega), frρ_ge (by omega)] at e; omega
  refine ⟨h.1, ?_⟩
  intro C φ S w cs hH hv
  have hno : ∀ i, hget H0 i ≠ .unborn → i < H0.length := fun i hu => Classical.byContradiction fun hn => hu (hget_length H0 i (by omega))
  have hrb : ∀ i, hget H0 i ≠ .unborn → RenB (frρ l H.length) H H0 i := fun i hu => by
    have hb := (hB i (hno i hu)).2
    cases hx : hget H0 i with
    | unborn => exact absurd hx hu
    | dead => exact .dead hx
    | box fz cells => rw [hx] at hb; exact .box fz _ cells hx hb (RenL.of_ren cells)
    | dat fz sz els => rw [hx] at hb; exact .dat fz sz els hx hb
  have hun : ∀ i, hget H0 i = .unborn → hget H (frρ l H.length i) = .unborn := fun i hu => by
    have : H0.length ≤ i := Classical.byContradiction fun hn => (hB i (by omega)).1 hu
    exact hget_length H _ (ρout i this)
  -- what the callee sees
  obtain ⟨φ0, S0, p1, p2, p3⟩ : ∃ φ0 : Nat → Option Loc, ∃ S0 : Nat → Prop, HRel C φ0 S0 H0 w ∧ RVs φ0 S0 H0 w vs0 cs ∧ (∀ i, i < H0.length → hget H0 i ≠ .dead → φ0 i = φ (frρ l H.length i)) ∧ (∀ i L, φ0 i = some L → φ (frρ l H.length i) = some L) ∧ S0 = S := by
    refine ⟨φren φ (frρ l H.length) H0, S, ?_, RVs.ren hrb hun vs0 cs hv, fun i hi hd => ?_, fun i L hL => ?_, rfl⟩
    · exact Weak.ren_heap hH hrb hun (fun i j _ _ e _ => ρinj i j e)
    · simp only [φren]
      cases hx : hget H0 i with
      | unborn => exact absurd hx (hB i hi).1
      | dead => exact absurd hx hd
      | _ => rfl
    · simp only [φren] at hL
      split at hL
      · cases hL
      · cases hL
      · exact hL
  obtain ⟨p3, p4, rfl⟩ := p3
  have hC' : HRel ⟨w.heap.size, fun B => ∃ i L, φ0 i = some L ∧ L.blk = B, S0⟩ φ0 S0 H0 w := ⟨Nat.le_refl _, fun i L hL => .inl ⟨i, L, hL, rfl⟩, fun B hB => .inl hB, p1.inj, p1.blk, p1.low⟩
  refine (h.2 _ φ0 S0 w cs hC' p2).mono ?_
  rintro e w' ⟨r, H1, hq, c, φ1, S1, rfl, hr, hH1, hs1, hk⟩
  have hlen1 := hlen1 r H1 hq
  -- the frame's heap
  have g1 : ∀ j, hget (frameH H l H1) (frρ l H.length j) = (hget H1 j).ren (frρ l H.length) := fun j => by
    have hL := putL_length l (H1.map (Blk.ren (frρ l H.length))) H hlt
    unfold frameH
    rw [hget_app, hL]
    by_cases hj : j < H0.length
    · rw [if_pos (ρin j hj).1]
      have hj1 : j < H1.length := by omega
      rw [putL_at l _ H _ j ((H1[j]).ren (frρ l H.length)) hnd (by rw [frρ_lt (by omega)]; exact List.getElem?_eq_getElem (by omega)) (by simp [hj1])]
      rw [hget_getElem H1 j, List.getElem?_eq_getElem hj1]; rfl
    · have := ρout j (by omega)
      rw [if_neg (by omega), frρ_ge (by omega)]
      rw [hget_getElem, hget_getElem]
      have e : H.length + (j - l.length) - H.length = j - l.length := by omega
      rw [e, List.getElem?_map, List.getElem?_drop]
      have e2 : l.length + (j - l.length) = j := by omega
      rw [e2]
      cases H1[j]? <;> rfl
  have g2 : ∀ i, (∀ j, frρ l H.length j ≠ i) → hget (frameH H l H1) i = hget H i := fun i hi => by
    have hL := putL_length l (H1.map (Blk.ren (frρ l H.length))) H hlt
    have hi1 : i < H.length := Classical.byContradiction fun hn => by
      have := hi (l.length + (i - H.length))
      rw [frρ_ge (by omega)] at this; omega
    have hi2 : i ∉ l := fun hm => by
      obtain ⟨j, hj, e⟩ := List.getElem_of_mem hm
      exact hi j (by rw [frρ_lt hj]; exact e)
    unfold frameH
    rw [hget_app, hL, if_pos hi1, putL_not l _ H i hi2]
  have hsame : ∀ B, B < w.heap.size → (∀ i L, φ0 i = some L → L.blk ≠ B) → w'.heap[B]? = w.heap[B]? := fun B hB ho => hk.block B hB (fun ⟨i, L, hL, e⟩ => ho i L hL e)
  have hS1 : ∀ B, S1 B → S0 B ∨ (∃ i L, φ0 i = some L ∧ L.blk = B) ∨ w.heap.size ≤ B := fun B hB => hH1.vis B hB
  have hS01 : ∀ B, S0 B → S1 B := fun B hB => (hs1.keepS B hB (p1.low B hB)).1
  -- the callee's own
  have hown1 : ∀ i L, φ1 i = some L → (∃ j L', φ0 j = some L' ∧ L'.blk = L.blk) ∨ w.heap.size ≤ L.blk := fun i L hL => hH1.own i L hL
  -- an old one of the caller's that the callee does not know
  have hfar : ∀ i L, φ i = some L → (∀ j, frρ l H.length j ≠ i) → ∀ j L', φ0 j = some L' → L'.blk ≠ L.blk := fun i L hL hi j L' hL' e => hi j (hH.inj _ _ L' L (p4 j L' hL') hL e)
  let φ' : Nat → Option Loc := fun i => (by classical exact if hi : ∃ j, frρ l H.length j = i then φ1 (Classical.choose hi) else φ i)
  have hφin : ∀ j, φ' (frρ l H.length j) = φ1 j := fun j => by
    have hi : ∃ j', frρ l H.length j' = frρ l H.length j := ⟨j, rfl⟩
    simp only [φ', dif_pos hi]
    rw [ρinj _ _ (Classical.choose_spec hi)]
  have hφout : ∀ i, (∀ j, frρ l H.length j ≠ i) → φ' i = φ i := fun i hi => by
    simp only [φ']
    rw [dif_neg (fun ⟨j, e⟩ => hi j e)]
  have hks : KeepS S1 w' S1 w' := .refl _ _
  have hbs : ∀ i, hget H1 i ≠ .unborn → hget (frameH H l H1) (frρ l H.length i) = (hget H1 i).ren (frρ l H.length) ∧ φ' (frρ l H.length i) = φ1 i := fun i _ => ⟨g1 i, hφin i⟩
  have hst : Step φ S0 H w φ' S1 (frameH H l H1) w' := by
    refine ⟨fun B hB hlt' => hs1.keepS B hB hlt', fun i hi => ?_⟩
    by_cases hin : ∃ j, frρ l H.length j = i
    · obtain ⟨j, rfl⟩ := hin
      have hj : j < H0.length := Classical.byContradiction fun hn => hi (hun j (hget_length H0 j (by omega)))
      obtain ⟨hb1, hb2⟩ := hB j hj
      rw [g1, hφin, hb2]
      rcases hs1.keepH j hb1 with hd | ⟨hsh, hφ⟩
      · left; rw [hd]; rfl
      · by_cases hd : hget H0 j = .dead
        · rw [hd] at hsh; simp [SameShape] at hsh
        · right
          refine ⟨?_, by rw [hφ, p3 j hj hd]⟩
          revert hsh
          cases hget H0 j <;> cases hget H1 j <;> simp [SameShape, Blk.ren, renL_map]
    · have hi' : ∀ j, frρ l H.length j ≠ i := fun j e => hin ⟨j, e⟩
      rw [g2 i hi', hφout i hi']
      exact (Step.refl (φ := φ) (S := S0) (H := H) (w := w)).keepH i hi
  refine ⟨_, _, ⟨r, H1, hq, rfl, rfl⟩, c, φ', S1, rfl, RV.shift (ρ := frρ l H.length) hks hbs hr, ⟨Nat.le_trans hH.n0 hk.size, ?_, ?_, ?_, ?_, hH1.low⟩, hst, ⟨hk.os, hk.tape, hk.output, hk.size, fun B hB ho => hsame B (Nat.lt_of_lt_of_le hB hH.n0) (fun i L hL e => ?_)⟩⟩
  · intro i L hL
    by_cases hin : ∃ j, frρ l H.length j = i
    · obtain ⟨j, rfl⟩ := hin
      rw [hφin] at hL
      rcases hown1 j L hL with ⟨j', L', h1, h2⟩ | h1
      · rw [← h2]; exact hH.own _ L' (p4 j' L' h1)
      · exact .inr (Nat.le_trans hH.n0 h1)
    · rw [hφout i (fun j e => hin ⟨j, e⟩)] at hL; exact hH.own i L hL
  · intro B hB
    rcases hS1 B hB with h | ⟨j, L, h1, rfl⟩ | h
    · exact hH.vis B h
    · rcases hH.own _ L (p4 j L h1) with h | h
      · exact .inr (.inl h)
      · exact .inr (.inr h)
    · exact .inr (.inr (Nat.le_trans hH.n0 h))
  · intro i j L L' hL hL' he
    by_cases hi : ∃ a, frρ l H.length a = i
    · obtain ⟨a, rfl⟩ := hi
      rw [hφin] at hL
      by_cases hj : ∃ b, frρ l H.length b = j
      · obtain ⟨b, rfl⟩ := hj
        rw [hφin] at hL'
        rw [hH1.inj a b L L' hL hL' he]
      · have hj' : ∀ b, frρ l H.length b ≠ j := fun b e => hj ⟨b, e⟩
        rw [hφout j hj'] at hL'
        rcases hown1 a L hL with ⟨a', L2, h1, h2⟩ | h1
        · exact absurd (h2.trans he) (hfar j L' hL' hj' a' L2 h1)
        · have := hH.lt hL'; omega
    · have hi' : ∀ b, frρ l H.length b ≠ i := fun b e => hi ⟨b, e⟩
      rw [hφout i hi'] at hL
      by_cases hj : ∃ b, frρ l H.length b = j
      · obtain ⟨b, rfl⟩ := hj
        rw [hφin] at hL'
        rcases hown1 b L' hL' with ⟨a', L2, h1, h2⟩ | h1
        · exact absurd (h2.trans he.symm) (hfar i L hL hi' a' L2 h1)
        · have := hH.lt hL; omega
      · have hj' : ∀ b, frρ l H.length b ≠ j := fun b e => hj ⟨b, e⟩
        rw [hφout j hj'] at hL'
        exact hH.inj i j L L' hL hL' he
  · intro i
    by_cases hin : ∃ j, frρ l H.length j = i
    · obtain ⟨j, rfl⟩ := hin
      rw [g1]
      exact BR.shift (ρ := frρ l H.length) hks hbs (hφin j) (fun L hL => Iff.rfl) (hH1.blk j)
    · have hi' : ∀ j, frρ l H.length j ≠ i := fun j e => hin ⟨j, e⟩
      rw [g2 i hi']
      refine (hH.blk i).keep hst (hφout i hi') (fun L hL => ⟨hsame _ (hH.lt hL) (hfar i L hL hi'), ⟨fun hh => ?_, hS01 _⟩⟩)
      rcases hS1 _ hh with h | ⟨j, L', h1, h2⟩ | h
      · exact h
      · exact absurd h2 (hfar i L hL hi' j L' h1)
      · have := hH.lt hL; omega
  · rcases hH.own _ L (p4 i L hL) with h | h
    · rw [e] at h; exact ho h
    · rw [e] at h; omega

theorem RSpec.frame {f : Nat} {vs0 : List V} {H0 H1 : Heap} {r : V} (h : RSpec P f vs0 H0 r H1) (l : List Nat) (hnd : l.Nodup) (hlen : l.length = H0.length) (hlen1 : H0.length ≤ H1.length) (hlt : ∀ i ∈ l, i < H.length)
    (hB : ∀ j, j < H0.length → hget H0 j ≠ .unborn ∧ hget H (frρ l H.length j) = (hget H0 j).ren (frρ l H.length)) :
    RSpec P f (renL (frρ l H.length) vs0) H (r.ren (frρ l H.length)) (frameH H l H1) :=
  (NSpec.frame h.n l hnd hlen (fun _ _ e => e.2 ▸ hlen1) hlt hB).r (fun a b ⟨r', H', ⟨e1, e2⟩, e3, e4⟩ => by subst e1; subst e2; exact ⟨e3, e4⟩)

end
end Go.Proofs.Ytaejlmengfahnaa.AM

set_option linter.all false
namespace Go.Proofs.Ytaejlmengfahnaa.AM
open Go Go.RowKit

section
variable {P : Program} {E : Env} {n m : Nat} {φ φ' : Nat → Option Loc} {S S' : Nat → Prop} {H H' : Heap} {w : World} {T T' : Tmps} {ρ : Nat → Nat}

theorem Weak.renM (ρ : Nat → Nat) (hT : ∀ t, Ren ρ H' (tget T' t) (tget T t)) (hB : ∀ i, hget H' i ≠ .unborn → RenB ρ H H' i) (hU : ∀ i, hget H' i = .unborn → hget H (ρ i) = .unborn)
    (hinj : ∀ i j, hget H' i ≠ .unborn → hget H' j ≠ .unborn → ρ i = ρ j → hget H (ρ i) ≠ .unborn → i = j)
    (hm : ∀ i, i < m → ρ i = i ∧ (hget H i ≠ .unborn → hget H' i ≠ .unborn)) : Weak m T H T' H' := by
  intro C φ S w a hH hT0
  refine ⟨φren φ ρ H', S, Weak.ren_heap hH hB hU hinj, fun t => RV.renR hB hU (hT t) (hT0 t), ⟨.refl _ _, Nat.le_refl _, fun id h hu => ?_⟩⟩
  obtain ⟨h1, h2⟩ := hm id h
  rcases hB id (h2 hu) with ⟨fz, cells, cells', g1, g2, g3⟩ | ⟨fz, sz, els, g1, g2⟩ | ⟨sz, g1, g2⟩ | g1
  · rw [h1] at g2
    right
    exact ⟨by rw [g1, g2]; simp [SameShape, g3.length], by simp [φren, g1, h1]⟩
  · rw [h1] at g2
    right
    exact ⟨by rw [g1, g2]; simp [SameShape], by simp [φren, g1, h1]⟩
  · rw [h1] at g2; exact absurd g2 hu
  · exact .inl g1

theorem Weak.trimM (n : Nat) (hmn : m ≤ n) (hT : ∀ q ∈ T', tget T q.1 = q.2 ∧ V.lower n q.2 = true) (hB : ∀ b ∈ H.take n, Blk.lower n b = true) : Weak m T H T' (H.take n) := by
  let ρ : Nat → Nat := fun i => if i < n then i else i + H.length
  have hρ : ∀ i, i < n → ρ i = i := fun i h => by simp [ρ, h]
  have hmem : ∀ i, i < n → hget H i ≠ .unborn → hget H i ∈ H.take n := fun i h hu => by
    have hlt : i < H.length := Classical.byContradiction fun hn => hu (hget_length H i (by omega))
    have : hget H i = H[i] := by rw [hget_getElem, List.getElem?_eq_getElem hlt]; rfl
    rw [this]
    exact List.mem_take_iff_getElem.2 ⟨i, by omega, rfl⟩
  refine Weak.renM ρ (fun t => ?_) (fun i hu => ?_) (fun i hu => ?_) (fun i j hi hj he hu => ?_) (fun i hi => ⟨hρ i (by omega), fun hu => by rw [hget_take, if_pos (by omega)]; exact hu⟩)
  · rcases tget_mem (T' := T') (t := t) with h | ⟨q, h1, rfl, h3⟩
    · rw [h]; exact .undef _
    · obtain ⟨h4, h5⟩ := hT q h1
      rw [h3, h4]
      have := Ren.same (ρ := ρ) (H' := H.take n) q.2
      rwa [V.ren_below hρ q.2 h5] at this
  · rw [hget_take] at hu
    by_cases hi : i < n
    · rw [if_pos hi] at hu
      have hb := hB _ (hmem i hi hu)
      have hg : hget (H.take n) i = hget H i := by rw [hget_take, if_pos hi]
      cases hx : hget H i with
      | unborn => exact absurd hx hu
      | dead => exact .dead (by rw [hg, hx])
      | box fz cells => rw [hx] at hb; exact .box fz cells cells (by rw [hg, hx]) (by rw [hρ i hi, hx]) (RenL.refl_below hρ cells hb)
      | dat fz sz els => exact .dat fz sz els (by rw [hg, hx]) (by rw [hρ i hi, hx])
    · rw [if_neg hi] at hu; exact absurd rfl hu
  · rw [hget_take] at hu
    by_cases hi : i < n
    · rw [if_pos hi] at hu; rw [hρ i hi]; exact hu
    · simp only [ρ]; rw [if_neg hi]; exact hget_length H _ (by omega)
  · rw [hget_take] at hi hj
    have h1 : i < n := Classical.byContradiction fun h => by rw [if_neg h] at hi; exact hi rfl
    have h2 : j < n := Classical.byContradiction fun h => by rw [if_neg h] at hj; exact hj rfl
    rwa [hρ i h1, hρ j h2] at he

theorem Weak.trimsM (n : Nat) (hmn : m ≤ n) (hH : H.take n = H') (hT : ∀ q ∈ T', tget T q.1 = q.2 ∧ V.lower n q.2 = true) (hB : ∀ b ∈ H', Blk.lower n b = true) : Weak m T H T' H' := by
  subst hH; exact Weak.trimM n hmn hT hB

def initV : Nat → List V → Tmps
  | _, [] => []
  | i, v :: r => (i, v) :: initV (i + 1) r

theorem initV_get : ∀ (vs : List V) (i t : Nat), tget (initV i vs) t = if i ≤ t then (match vs[t - i]? with | some v => v | none => .d .undef) else .d .undef
  | [], i, t => by simp [initV, tget]
  | v :: r, i, t => by
    simp only [initV, tget]
    by_cases h : t = i
    · subst h; simp
    · rw [if_neg h, initV_get r (i + 1) t]
      by_cases h1 : i ≤ t
      · rw [if_pos h1, if_pos (by omega)]
        have : t - i = (t - (i + 1)) + 1 := by omega
        rw [this]; simp
      · rw [if_neg h1, if_neg (by omega)]

def FinR (E : Env) (m : Nat) (rs : List ResultVar) (r : V) (H1 : Heap) : Ex → Tmps → Heap → Prop
  | .exit _, _, _ => False
  | _, T, H => ∃ v, resOf E T H rs = some v ∧ Weak m [(0, v)] H [(0, r)] H1

theorem RSpec.of_awp {f : Nat} {fn : Func} {body : Code} {vs : List V} {H0 H1 : Heap} {r : V} (hE : EOk P E) (hmix : P.follows .mixedOrders = true) (hf : P.funcs[f]? = some fn) (hb : fn.body = some body) (hcall : Callable P f) (hn : vs.length ≤ fn.ntmps)
    (h : awp P E fn.ntmps H0.length body (initV 0 vs) H0 (FinR E H0.length fn.results.toList r H1)) : RSpec P f vs H0 r H1 := by
  refine ⟨hcall, fun C φ S w cs hH hv => ?_⟩
  have hlen := hv.len
  have hsz : (cs.toArray ++ Array.replicate (fn.ntmps - cs.toArray.size) undef).size = fn.ntmps := by simp; omega
  have hst : Stands C fn.ntmps (initV 0 vs) H0 φ S { tmps := cs.toArray ++ Array.replicate (fn.ntmps - cs.toArray.size) undef, defers := [] } w := by
    refine ⟨hH, fun t => ?_, hsz, rfl⟩
    rw [initV_get]
    simp only [Nat.zero_le, if_true, Nat.sub_zero]
    by_cases ht : t < vs.length
    · have hc : t < cs.length := by omega
      rw [List.getElem?_eq_getElem ht]
      have : (cs.toArray ++ Array.replicate (fn.ntmps - cs.toArray.size) undef).getD t undef = cs[t] := by
        simp [Array.getElem?_append, hc]
      rw [this]
      exact hv.at_ t _ _ (List.getElem?_eq_getElem ht) (List.getElem?_eq_getElem hc)
    · rw [List.getElem?_eq_none (by omega)]
      exact .d _ _ (.undef _)
  refine calls_of_wp hf hb (wp_mono (awp_sound (m := H0.length) hE hmix body hst h) ?_)
  rintro e a' w' ⟨e', T', H', φ', S', hq, rfl, hst', hs', hk'⟩
  have fin : (∃ v, resOf E T' H' fn.results.toList = some v ∧ Weak H0.length [(0, v)] H' [(0, r)] H1) → a'.defers = [] ∧ ∃ v, (results fn a'.tmps).run P w' = .ok v w' ∧
      ∃ c φ1 S1, Ending.returned v = .returned c ∧ RV φ1 S1 H1 w' r c ∧ HRel C φ1 S1 H1 w' ∧ Step φ S H0 w φ1 S1 H1 w' ∧ Kp C w w' := by
    rintro ⟨v, hv, hx⟩
    obtain ⟨c, hrun, hc⟩ := resOf_sound hE hst' hv
    obtain ⟨φ1, S1, g1, g2, g3⟩ := hx _ φ' S' w' { tmps := #[c], defers := [] } hst'.heap (fun t => by
      simp only [tget]
      split
      · rename_i e; subst e; exact hc
      · exact .d _ _ (.undef _))
    have hall := hs'.trans g3
    refine ⟨hst'.defers, c, hrun, c, φ1, S1, rfl, ?_, g1, ⟨hall.keepS, fun id hu => hall.keepH id (Classical.byContradiction fun hn => hu (hget_length H0 id (by omega))) hu⟩, hk'⟩
    have := g2 0
    simpa [tget] using this
  cases e' with
  | normal => exact fin hq
  | ret => exact fin hq
  | exit id => exact hq.elim

def FinN (E : Env) (m : Nat) (rs : List ResultVar) (Qf : V → Heap → Prop) : Ex → Tmps → Heap → Prop := fun e T H => ∃ r H1, Qf r H1 ∧ FinR E m rs r H1 e T H

theorem NSpec.of_awp {f : Nat} {fn : Func} {body : Code} {vs : List V} {H0 : Heap} {Qf : V → Heap → Prop} (hE : EOk P E) (hmix : P.follows .mixedOrders = true) (hf : P.funcs[f]? = some fn) (hb : fn.body = some body) (hcall : Callable P f) (hn : vs.length ≤ fn.ntmps)
    (h : awp P E fn.ntmps H0.length body (initV 0 vs) H0 (FinN E H0.length fn.results.toList Qf)) : NSpec P f vs H0 Qf := by
  refine ⟨hcall, fun C φ S w cs hH hv => ?_⟩
  have hlen := hv.len
  have hsz : (cs.toArray ++ Array.replicate (fn.ntmps - cs.toArray.size) undef).size = fn.ntmps := by simp; omega
  have hst : Stands C fn.ntmps (initV 0 vs) H0 φ S { tmps := cs.toArray ++ Array.replicate (fn.ntmps - cs.toArray.size) undef, defers := [] } w := by
    refine ⟨hH, fun t => ?_, hsz, rfl⟩
    rw [initV_get]
    simp only [Nat.zero_le, if_true, Nat.sub_zero]
    by_cases ht : t < vs.length
    · have hc : t < cs.length := by omega
      rw [List.getElem?_eq_getElem ht]
      have : (cs.toArray ++ Array.replicate (fn.ntmps - cs.toArray.size) undef).getD t undef = cs[t] := by
        simp [Array.getElem?_append, hc]
      rw [this]
      exact hv.at_ t _ _ (List.getElem?_eq_getElem ht) (List.getElem?_eq_getElem hc)
    · rw [List.getElem?_eq_none (by omega)]
      exact .d _ _ (.undef _)
  refine calls_of_wp hf hb (wp_mono (awp_sound (m := H0.length) hE hmix body hst h) ?_)
  rintro e a' w' ⟨e', T', H', φ', S', hq, rfl, hst', hs', hk'⟩
  obtain ⟨r, H1, hQ, hq⟩ := hq
  have fin : (∃ v, resOf E T' H' fn.results.toList = some v ∧ Weak H0.length [(0, v)] H' [(0, r)] H1) → a'.defers = [] ∧ ∃ v, (results fn a'.tmps).run P w' = .ok v w' ∧
      ∃ r H1, Qf r H1 ∧ ∃ c φ1 S1, Ending.returned v = .returned c ∧ RV φ1 S1 H1 w' r c ∧ HRel C φ1 S1 H1 w' ∧ Step φ S H0 w φ1 S1 H1 w' ∧ Kp C w w' := by
    rintro ⟨v, hv, hx⟩
    obtain ⟨c, hrun, hc⟩ := resOf_sound hE hst' hv
    obtain ⟨φ1, S1, g1, g2, g3⟩ := hx _ φ' S' w' { tmps := #[c], defers := [] } hst'.heap (fun t => by
      simp only [tget]
      split
      · rename_i e; subst e; exact hc
      · exact .d _ _ (.undef _))
    have hall := hs'.trans g3
    refine ⟨hst'.defers, c, hrun, r, H1, hQ, c, φ1, S1, rfl, ?_, g1, ⟨hall.keepS, fun id hu => hall.keepH id (Classical.byContradiction fun hn => hu (hget_length H0 id (by omega))) hu⟩, hk'⟩
    have := g2 0
    simpa [tget] using this
  cases e' with
  | normal => exact fin hq
  | ret => exact fin hq
  | exit id => exact hq.elim

def afinR (E : Env) (m : Nat) (rs : List ResultVar) (r : V) (H1 : Heap) (T : Tmps) (H : Heap) : Prop := ∃ v, resOf E T H rs = some v ∧ Weak m [(0, v)] H [(0, r)] H1
theorem z3a {rs r H1} : FinR E m rs r H1 .ret T H = afinR E m rs r H1 T H := rfl
theorem z3b {rs r H1} : FinR E m rs r H1 .normal T H = afinR E m rs r H1 T H := rfl
theorem z3c {rs r H1} : afinR E m rs r H1 T H = (match resOf E T H rs with | some v => Weak m [(0, v)] H [(0, r)] H1 | none => False) := by
  unfold afinR
  cases resOf E T H rs <;> simp

theorem acall_ref {f : Nat} {vs vs0 : List V} {H0 H1 : Heap} {r : V} {dst : Option Nat} {K : Tmps → Heap → Prop} (l : List Nat) (h : RSpec P f vs0 H0 r H1) (hvs : renL (frρ l H.length) vs0 = vs) (hnd : l.Nodup) (hlen : l.length = H0.length) (hlen1 : H0.length ≤ H1.length) (hlt : ∀ i ∈ l, i < H.length)
    (hB : ∀ j, j < H0.length → hget H0 j ≠ .unborn ∧ hget H (frρ l H.length j) = (hget H0 j).ren (frρ l H.length))
    (hK : K (tput n T dst (r.ren (frρ l H.length))) (frameH H l H1)) : acall P n f vs dst T H K := by
  subst hvs
  exact acall_r (RSpec.frame h l hnd hlen hlen1 hlt hB) hK

end
-- Short names for what the walks cite.
def z3x := @List.getElem?_cons_succ
def z3y := @List.getElem?_cons_zero
def z3z := @List.getElem?_nil
def z40 := @true_and
def z41 := @and_true
def z42 := @Nat.sub_self
def z43 := @Nat.add_zero
def z44 := @Nat.zero_add
def z45 := @Nat.sub_zero
def z46 := @Bool.false_eq_true
def z47 := @Bool.not_true
def z48 := @Bool.not_false
def z49 := @Bool.true_eq_false
def z4a := @List.length_cons
def z4b := @List.length_nil
def z4c := @List.map_cons
def z4d := @List.map_nil
def z4e := @List.cons_append
def z4f := @List.nil_append
def z4g := @List.append_nil
def z4h := @List.all_cons
def z4i := @List.all_nil
def z4j := @Bool.and_true
def z4k := @Bool.true_and
def z4l := @Bool.and_false
def z4m := @Bool.false_and
def z4n := @Bool.and_self
def z4o := @decide_true
def z4p := @decide_false
def z4q := @decide_eq_true_eq
def z4r := @List.drop_zero
def z4s := @List.drop_succ_cons
def z4t := @List.take_succ_cons
def z4u := @List.take_zero
def z4v := @List.take_nil
def z4w := @List.drop_nil
def z4x := @Option.isSome_some
def z4y := @List.isEmpty_cons
def z4z := @List.isEmpty_nil
def z50 := @beq_self_eq_true
def z51 := @bne_self_eq_false
def z52 := @List.toList_toArray
def z53 := @List.length_map
def z54 := @Int.toNat_natCast
def z55 := @Int.toNat_zero
def z56 := @Int.ofNat_eq_natCast
def z57 := @Int.natCast_zero
def z58 := @true_implies
def z59 := @Nat.lt_irrefl
def z5a := @ge_iff_le
def z5b := @gt_iff_lt
def z5c := @false_implies
def z5d := @forall_const
def z5e := @List.size_toArray
def z5f := @Array.size_empty
def z5g := @Option.getD_some
def z5h := @Option.getD_none
def z5i := @List.headD_cons
def z5j := @List.append_eq

end Go.Proofs.Ytaejlmengfahnaa.AM

set_option linter.all false
namespace Go.Proofs.Ytaejlmengfahnaa.AM
open Go Go.RowKit
def zz := And.intro (And.intro @z70 (And.intro @z71 (And.intro @z72 @z73))) (And.intro (And.intro @z60 (And.intro @z61 (And.intro @z62 (And.intro @z63 (And.intro @z64 (And.intro @z65 (And.intro @z66 (And.intro @z67 (And.intro @z68 @z2dl))))))))) (And.intro (And.intro (And.intro (And.intro (And.intro (And.intro (And.intro @z00 (And.intro @z01 @z02)) (And.intro @z03 (And.intro @z04 @z05))) (And.intro (And.intro @z06 (And.intro @z07 @z08)) (And.intro @z09 (And.intro @z0a @z0b)))) (And.intro (And.intro (And.intro @z0c (And.intro @z0d @z0e)) (And.intro @z0f (And.intro @z0g @z0h))) (And.intro (And.intro @z0i (And.intro @z0j @z0k)) (And.intro (And.intro @z0l @z0m) (And.intro @z0n @z0o))))) (And.intro (And.intro (And.intro (And.intro @z0p (And.intro @z0q @z0r)) (And.intro @z0s (And.intro @z0t @z0u))) (And.intro (And.intro @z0v (And.intro @z0w @z0x)) (And.intro @z0y (And.intro @z0z @z10)))) (And.intro (And.intro (And.intro @z11 (And.intro @z12 @z13)) (And.intro @z14 (And.intro @z15 @z16))) (And.intro (And.intro @z17 (And.intro @z18 @z19)) (And.intro (And.intro @z1a @z1b) (And.intro @z1c @z1d)))))) (And.intro (And.intro (And.intro (And.intro (And.intro @z1e (And.intro @z1f @z1g)) (And.intro @z1h (And.intro @z1i @z1j))) (And.intro (And.intro @z1k (And.intro @z1l @z1m)) (And.intro @z1n (And.intro @z1o @z1p)))) (And.intro (And.intro (And.intro @z1q (And.intro @z1r @z1s)) (And.intro @z1t (And.intro @z1u @z1v))) (And.intro (And.intro @z1w (And.intro @z1x @z1y)) (And.intro (And.intro @z1z @z20) (And.intro @z21 @z22))))) (And.intro (And.intro (And.intro (And.intro @z23 (And.intro @z24 @z25)) (And.intro @z26 (And.intro @z27 @z28))) (And.intro (And.intro @z29 (And.intro @z2a @z2b)) (And.intro @z2c (And.intro @z2d @z2e)))) (And.intro (And.intro (And.intro @z2f (And.intro @z2g @z2h)) (And.intro @z2i (And.intro @z2j @z2k))) (And.intro (And.intro @z2l (And.intro @z2m @z2n)) (And.intro (And.intro @z2o @z2p) (And.intro @z2q @z2r))))))) (And.intro (And.intro (And.intro (And.intro (And.intro (And.intro @z2s (And.intro @z2t @z2u)) (And.intro @z2v (And.intro @z2w @z2x))) (And.intro (And.intro @z2y (And.intro @z2z @z30)) (And.intro @z31 (And.intro @z32 @z33)))) (And.intro (And.intro (And.intro @z34 (And.intro @z35 @z36)) (And.intro @z37 (And.intro @z38 @z39))) (And.intro (And.intro @z3a (And.intro @z3b @z3c)) (And.intro (And.intro @z3d @z3e) (And.intro @z3f @z3g))))) (And.intro (And.intro (And.intro (And.intro @z3h (And.intro @z3i @z3j)) (And.intro @z3k (And.intro @z3l @z3m))) (And.intro (And.intro @z3n (And.intro @z3o @z3p)) (And.intro @z3q (And.intro @z3r @z3s)))) (And.intro (And.intro (And.intro @z3t (And.intro @z3u @z3v)) (And.intro @z3w (And.intro @z3x.{0} @z3y.{0}))) (And.intro (And.intro @z3z.{0} (And.intro @z40 @z41)) (And.intro (And.intro @z42 @z43) (And.intro @z44 @z45)))))) (And.intro (And.intro (And.intro (And.intro (And.intro @z46 (And.intro @z47 @z48)) (And.intro @z49 (And.intro @z4a.{0} @z4b.{0}))) (And.intro (And.intro @z4c.{0, 0} (And.intro @z4d.{0, 0} @z4e.{0})) (And.intro @z4f.{0} (And.intro @z4g.{0} @z4h.{0})))) (And.intro (And.intro (And.intro @z4i.{0} (And.intro @z4j @z4k)) (And.intro @z4l (And.intro @z4m @z4n))) (And.intro (And.intro @z4o (And.intro @z4p @z4q)) (And.intro (And.intro @z4r.{0} @z4s.{0}) (And.intro @z4t.{0} @z4u.{0}))))) (And.intro (And.intro (And.intro (And.intro @z4v.{0} (And.intro @z4w.{0} @z4x.{0})) (And.intro @z4y.{0} (And.intro @z4z.{0} @z50.{0}))) (And.intro (And.intro @z51.{0} (And.intro @z52.{0} @z53.{0, 0})) (And.intro @z54 (And.intro @z55 @z56)))) (And.intro (And.intro (And.intro @z57 (And.intro @z58 @z59)) (And.intro @z5a.{0} (And.intro @z5b.{0} @z5c))) (And.intro (And.intro @z5d.{0} (And.intro @z5e.{0} @z5f.{0})) (And.intro (And.intro @z5g.{0} @z5h.{0}) (And.intro @z5i.{0} @z5j.{0})))))))))
end Go.Proofs.Ytaejlmengfahnaa.AM
