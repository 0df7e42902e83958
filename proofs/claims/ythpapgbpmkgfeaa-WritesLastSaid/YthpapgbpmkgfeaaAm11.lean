/- ONE OPERATION OF THE MACHINE IS ONE OF THE MODEL. -/
import Derived.Test.YthpapgbpmkgfeaaAm10
set_option linter.all false
namespace Go.Proofs.Ythpapgbpmkgfeaa.AM
open Go Go.RowKit

section
variable {P : Program} {E : Env} {C : Ctx} {φ φ' : Nat → Option Loc} {S S' : Nat → Prop} {H H' : Heap} {w w' : World} {T : Tmps} {a : Act}

theorem all_one_not_undef {v : V} (h : v.cells.all V.one = true) : v.isUndef = false := by
  cases v with
  | d x => cases x <;> simp_all [V.isUndef, V.cells, V.one]
  | _ => rfl

theorem ok_inv {u v : V} {p : Prop} {ch : Ch} (h : ok u = some (p, v, ch)) : p = True ∧ v = u ∧ ch = .no := by
  simp only [ok, Option.some.injEq, Prod.mk.injEq] at h
  exact ⟨h.1.symm, h.2.1.symm, h.2.2.symm⟩

theorem loadD_true {ti : TI} {e : D} {j : Nat} {p : Prop} {v : V} {ch : Ch} (h : loadD ti e j = some (p, v, ch)) : p = True := by
  unfold loadD at h
  split at h
  · split at h
    · exact (ok_inv h).1
    · cases h
  · split at h
    · exact (ok_inv h).1
    · cases h

set_option maxHeartbeats 1000000 in
theorem evop_sound {o : Oper} {nid : Nat} {p : Prop} {v : V} {ch : Ch} (hE : EOk P E) (h : evop E T H nid o.op = some (p, v, ch)) (hp : p) (hu : hget H nid = .unborn) (hH : HRel C φ S H w) (hT : TRel φ S H w T a) :
    Out P C φ S H w o a v (ch.on H nid) := by
  generalize ho : o.op = op at h
  unfold evop at h
  split at h
  · -- move
    split at h
    · cases h
    · obtain ⟨rfl, rfl, rfl⟩ := ok_inv h
      exact out_move (.inl ho) hH hT
  · -- assign
    split at h
    · cases h
    · obtain ⟨rfl, rfl, rfl⟩ := ok_inv h
      exact out_move (.inr ho) hH hT
  · -- pick
    split at h
    · rename_i hc
      split at h
      · cases h
      · obtain ⟨rfl, rfl, rfl⟩ := ok_inv h
        exact out_pick (t := true) ho hc hH hT
    · rename_i hc
      split at h
      · cases h
      · obtain ⟨rfl, rfl, rfl⟩ := ok_inv h
        exact out_pick (t := false) ho hc hH hT
    · cases h
  · -- not
    split at h
    · rename_i hx
      obtain ⟨rfl, rfl, rfl⟩ := ok_inv h
      exact out_not ho hx hH hT
    · cases h
  · -- binOp
    split at h
    · rename_i k n k' m hx hy
      split at h
      · rename_i hk
        subst hk
        split at h
        · rename_i q r hr
          simp only [Option.some.injEq, Prod.mk.injEq] at h
          obtain ⟨rfl, rfl, rfl⟩ := h
          exact out_int ho hx hy hr hp hH hT
        · cases h
      · cases h
    · rename_i b b' hx hy
      split at h
      · rename_i ti hti
        split at h
        · rename_i hsh
          obtain ⟨rfl, rfl, rfl⟩ := ok_inv h
          exact out_bool ho (hE _ _ hti) hsh hx hy (.inl ⟨rfl, rfl⟩) hH hT
        · cases h
      · rename_i ti hti
        split at h
        · rename_i hsh
          obtain ⟨rfl, rfl, rfl⟩ := ok_inv h
          exact out_bool ho (hE _ _ hti) hsh hx hy (.inr ⟨rfl, rfl⟩) hH hT
        · cases h
      · cases h
    · split at h
      · rename_i ti xs ys hti hxs hys
        split at h
        · rename_i hc
          simp only [Bool.and_eq_true, Bool.not_eq_true', List.isEmpty_eq_false_iff] at hc
          obtain ⟨⟨hc1, hc2⟩, hc3⟩ := hc
          split at h
          · rename_i b hb
            obtain ⟨rfl, rfl, rfl⟩ := ok_inv h
            exact out_struct ho (hE _ _ hti) hc1 hc2 hc3 hxs hys hb (.inl ⟨rfl, rfl⟩) hH hT
          · rename_i b hb
            obtain ⟨rfl, rfl, rfl⟩ := ok_inv h
            exact out_struct ho (hE _ _ hti) hc1 hc2 hc3 hxs hys hb (.inr ⟨rfl, rfl⟩) hH hT
          · cases h
        · cases h
      · cases h
  · -- extract
    split at h
    · rename_i cs hx
      split at h
      · rename_i u hu'
        obtain ⟨rfl, rfl, rfl⟩ := ok_inv h
        exact out_extract ho hx hu' hH hT
      · cases h
    · rename_i cs hx
      split at h
      · rename_i u hu'
        obtain ⟨rfl, rfl, rfl⟩ := ok_inv h
        exact out_dextract ho hx hu' hH hT
      · cases h
    · cases h
  · -- alloc
    split at h
    · rename_i ti hti
      simp only [Option.some.injEq, Prod.mk.injEq] at h
      obtain ⟨rfl, rfl, rfl⟩ := h
      exact out_alloc ho (hE _ _ hti) hH hu
    · cases h
  · -- box
    split at h
    · rename_i ti hti
      split at h
      · cases h
      · rename_i hx
        simp only [Option.some.injEq, Prod.mk.injEq] at h
        obtain ⟨rfl, rfl, rfl⟩ := h
        exact out_box ho (by simpa using hx) hH hT hu
    · cases h
  · -- load
    split at h
    · rename_i ti e j hti hx
      have htr : p = True := loadD_true h
      subst htr
      obtain ⟨rfl, r⟩ := out_load_imm ho (hE _ _ hti) hx h hH hT
      exact r
    · rename_i ti id i j hti hx
      split at h
      · rename_i fz cells hg
        split at h
        · rename_i hi
          split at h
          · rename_i hag
            split at h
            · rename_i hle
              obtain ⟨rfl, rfl, rfl⟩ := ok_inv h
              exact out_load_box ho (hE _ _ hti) hx hi hg (by rw [if_pos hag]; exact ⟨hle, rfl⟩) hH hT
            · cases h
          · rename_i hag
            split at h
            · rename_i u hu'
              split at h
              · cases h
              · obtain ⟨rfl, rfl, rfl⟩ := ok_inv h
                exact out_load_box ho (hE _ _ hti) hx hi hg (by rw [if_neg hag]; exact hu') hH hT
            · cases h
        · cases h
      · rename_i fz sz els hg
        split at h
        · rename_i e he
          have htr : p = True := loadD_true h
          subst htr
          obtain ⟨rfl, r⟩ := out_load_dat ho (hE _ _ hti) hx hg he h hH hT
          exact r
        · cases h
      · cases h
    · cases h
  · -- store
    split at h
    · rename_i ti id i j hti hx
      split at h
      · rename_i hc
        simp only [Bool.and_eq_true, decide_eq_true_eq] at hc
        obtain ⟨hc1, hc2⟩ := hc
        split at h
        · rename_i cells hg
          split at h
          · rename_i hc3
            simp only [Bool.and_eq_true, decide_eq_true_eq] at hc3
            obtain ⟨rfl, hc4⟩ := hc3
            simp only [Option.some.injEq, Prod.mk.injEq] at h
            obtain ⟨rfl, rfl, rfl⟩ := h
            exact out_store_box ho (hE _ _ hti) hx hg hc1 hc2 hc4 (all_one_not_undef hc2) hH hT
          · cases h
        · rename_i sz els hg
          split at h
          · rename_i e ds he hds
            split at h
            · rename_i hfit
              simp only [Bool.and_eq_true, decide_eq_true_eq] at hfit
              simp only [Option.some.injEq, Prod.mk.injEq] at h
              obtain ⟨rfl, rfl, rfl⟩ := h
              exact out_store_dat ho (hE _ _ hti) hx hg he hds hc1 hfit.1 hc2 hfit.2 (all_one_not_undef hc2) hH hT
            · cases h
          · cases h
        · cases h
      · cases h
    · cases h
  · -- fieldAddr
    split at h
    · rename_i ti e j hti hx
      split at h
      · rename_i off sz hs
        split at h
        · cases h
        · rename_i h0
          obtain ⟨rfl, rfl, rfl⟩ := ok_inv h
          exact out_fieldAddr_imm ho (hE _ _ hti) hs h0 hx hH hT
      · cases h
    · rename_i ti id i j hti hx
      split at h
      · rename_i off sz hs
        split at h
        · cases h
        · rename_i h0
          split at h
          · rename_i hw
            obtain ⟨rfl, rfl, rfl⟩ := ok_inv h
            exact out_fieldAddr_ptr ho (hE _ _ hti) hs h0 hx hw hH hT
          · cases h
      · cases h
    · cases h
  · -- indexAddr
    split at h
    · rename_i ti els k n hti hx hi
      split at h
      · rename_i et hsh
        split at h
        · rename_i eti e het he
          split at h
          · rename_i hsz
            simp only [Option.some.injEq, Prod.mk.injEq] at h
            obtain ⟨rfl, rfl, rfl⟩ := h
            exact out_index_vec ho (hE _ _ hti) hsh (hE _ _ het) hx hi hp he hsz hH hT
          · cases h
        · cases h
      · cases h
    · rename_i ti id off len k n hti hx hi
      split at h
      · rename_i et fz sz els hsh hg
        split at h
        · rename_i eti het
          split at h
          · rename_i hsz
            simp only [Option.some.injEq, Prod.mk.injEq] at h
            obtain ⟨rfl, rfl, rfl⟩ := h
            exact out_index_own ho (hE _ _ hti) hsh (hE _ _ het) hx hg hi hp.1 hp.2 hsz hH hT
          · cases h
        · cases h
      · cases h
    · rename_i ti id i j k n hti hx hi
      split at h
      · rename_i m et hsh
        split at h
        · rename_i eti het
          split at h
          · rename_i hw
            simp only [Option.some.injEq, Prod.mk.injEq] at h
            obtain ⟨rfl, rfl, rfl⟩ := h
            exact out_index_array_ptr ho (hE _ _ hti) hsh (hE _ _ het) hx hi hp.1 hp.2 hw hH hT
          · cases h
        · cases h
      · cases h
    · rename_i ti e j k n hti hx hi
      split at h
      · rename_i m et hsh
        split at h
        · rename_i eti het
          simp only [Option.some.injEq, Prod.mk.injEq] at h
          obtain ⟨rfl, rfl, rfl⟩ := h
          exact out_index_array_imm ho (hE _ _ hti) hsh (hE _ _ het) hx hi hp.1 hp.2 hH hT
        · cases h
      · cases h
    · cases h
  · -- slice
    split at h
    · rename_i eti n hs hl
      split at h
      · rename_i l hh hlo hhi
        split at h
        · rename_i hx
          simp only [Option.some.injEq, Prod.mk.injEq] at h
          obtain ⟨rfl, rfl, rfl⟩ := h
          rw [hx] at hl; simp [lenOf] at hl; subst hl
          exact out_slice_nils ho hE hs hx hlo hhi hp.1 hp.2 hH hT
        · rename_i els hx
          simp only [Option.some.injEq, Prod.mk.injEq] at h
          obtain ⟨rfl, rfl, rfl⟩ := h
          rw [hx] at hl; simp [lenOf] at hl; subst hl
          exact out_slice_vec ho hE hs hx hlo hhi hp.1 hp.2.1 hp.2.2.1 hp.2.2.2 hH hT
        · rename_i id off len hx
          split at h
          · rename_i fz sz els hg
            split at h
            · rename_i hsz
              simp only [Option.some.injEq, Prod.mk.injEq] at h
              obtain ⟨rfl, rfl, rfl⟩ := h
              rw [hx] at hl; simp [lenOf, hg] at hl; subst hl
              exact out_slice_own ho hE hs hx hg hlo hhi hp.1 hp.2.1 hp.2.2 hsz hH hT
            · cases h
          · cases h
        · cases h
      · cases h
    · cases h
  · -- buildSlice
    split at h
    · rename_i eti hs
      split at h
      · rename_i els hels
        split at h
        · rename_i hc
          simp only [Bool.and_eq_true, decide_eq_true_eq] at hc
          simp only [Option.some.injEq, Prod.mk.injEq] at h
          obtain ⟨rfl, rfl, rfl⟩ := h
          exact out_buildSlice ho hE hs hels hc.1 hc.2 hu hH hT
        · cases h
      · cases h
    · cases h
  · -- build
    split at h
    · rename_i ti hti
      split at h
      · rename_i fs hsh
        split at h
        · rename_i cells hcells
          obtain ⟨rfl, rfl, rfl⟩ := ok_inv h
          exact out_build_struct ho (hE _ _ hti) hsh hcells hH hT
        · cases h
      · rename_i m et hsh
        split at h
        · rename_i eti het
          split at h
          · rename_i cells hcells
            split at h
            · obtain ⟨rfl, rfl, rfl⟩ := ok_inv h
              exact out_build_array ho (hE _ _ hti) hsh (hE _ _ het) hcells hH hT
            · cases h
          · cases h
        · cases h
      · cases h
    · cases h
  · -- makeFunc
    split at h
    · rename_i h0
      obtain ⟨rfl, rfl, rfl⟩ := ok_inv h
      exact out_makeFunc ho hH hT
    · cases h
  · -- nilCheck
    split at h
    · rename_i hx
      obtain ⟨rfl, rfl, rfl⟩ := ok_inv h
      exact out_nilCheck ho hx hH hT
    · cases h
  · -- convert
    split at h
    · rename_i si ti k n hsi hti hx
      split at h
      · rename_i kk hsh
        obtain ⟨rfl, rfl, rfl⟩ := ok_inv h
        exact out_convert ho (hE _ _ hsi) (hE _ _ hti) hsh hx hH hT
      · cases h
    · cases h
  · -- len
    split at h
    · rename_i x t hargs htys
      split at h
      · rename_i eti n hs hl
        obtain ⟨rfl, rfl, rfl⟩ := ok_inv h
        exact out_len ho rfl hargs htys hE hs hl hH hT
      · cases h
    · cases h
  · -- append
    split at h
    · rename_i x y t u hargs htys
      split at h
      · rename_i eti uti ys hs hs' hy
        split at h
        · rename_i hc
          simp only [Bool.and_eq_true, decide_eq_true_eq] at hc
          obtain ⟨rfl, hb⟩ := hc
          split at h
          · rename_i hx
            simp only [Option.some.injEq, Prod.mk.injEq] at h
            obtain ⟨rfl, rfl, rfl⟩ := h
            exact out_append_nils ho rfl hargs htys hE hs hx hy hb hp.1 hp.2 hu hH hT
          · rename_i id off len hx
            split at h
            · rename_i sz els hg
              split at h
              · rename_i hsz
                simp only [Option.some.injEq, Prod.mk.injEq] at h
                obtain ⟨rfl, rfl, rfl⟩ := h
                exact out_append_own ho rfl hargs htys hE hs hx hg hsz hy hb hp.1 hp.2 hu hH hT
              · cases h
            · cases h
          · cases h
        · cases h
      · cases h
    · cases h
  · -- min
    split at h
    · rename_i x y hargs
      split at h
      · rename_i k n k' m hx hy
        obtain ⟨rfl, rfl, rfl⟩ := ok_inv h
        exact out_min ho rfl hargs hx hy hH hT
      · cases h
    · cases h
  · -- max
    split at h
    · rename_i x y hargs
      split at h
      · rename_i k n k' m hx hy
        obtain ⟨rfl, rfl, rfl⟩ := ok_inv h
        exact out_max ho rfl hargs hx hy hH hT
      · cases h
    · cases h
  · -- clear
    split at h
    · rename_i x t hargs htys
      split at h
      · rename_i eti id off len hs hx
        split at h
        · rename_i sz els z hg hz
          split at h
          · rename_i hc
            simp only [Bool.and_eq_true, decide_eq_true_eq] at hc
            simp only [Option.some.injEq, Prod.mk.injEq] at h
            obtain ⟨rfl, rfl, rfl⟩ := h
            exact out_clear ho rfl hargs htys hE hs hx hg hz hc.1 hc.2 hH hT
          · cases h
        · cases h
      · cases h
    · cases h
  · cases h

end
end Go.Proofs.Ythpapgbpmkgfeaa.AM
