/- The machine's meaning of code is monotone. -/
import Derived.Test.YthpapgbpmkgfeaaAm21
set_option linter.all false
namespace Go.Proofs.Ythpapgbpmkgfeaa.AM
open Go Go.RowKit

section
variable {P : Program} {E : Env} {n m : Nat}

theorem astep_mono {o : Oper} {T : Tmps} {H : Heap} {K1 K2 : Tmps → Heap → Prop} (hK : ∀ T H, K1 T H → K2 T H) (h : astep P E n o T H K1) : astep P E n o T H K2 := by
  unfold astep at h ⊢
  split at h
  · split at h
    · obtain ⟨r, H', h1, h2⟩ := h; exact ⟨r, H', h1, hK _ _ h2⟩
    · exact h.elim
  · split at h
    · exact ⟨fun hp => hK _ _ (h.1 hp), fun hp => hK _ _ (h.2 hp)⟩
    · split at h
      · exact ⟨h.1, hK _ _ h.2⟩
      · exact h.elim

theorem aops_mono {all : List Oper} : ∀ (l : List Oper) {T : Tmps} {H : Heap} {K1 K2 : Tmps → Heap → Prop}, (∀ T H, K1 T H → K2 T H) → aops P E n all l T H K1 → aops P E n all l T H K2
  | [], T, H, K1, K2, hK, h => hK _ _ h
  | o :: rest, T, H, K1, K2, hK, h => by
    simp only [aops] at h ⊢
    split at h
    · exact astep_mono (fun T H h => aops_mono rest hK h) h
    · split at h
      · split at h
        · split at h
          · rename_i e; rw [if_pos e]; exact astep_mono (fun T H h => aops_mono rest hK h) h
          · rename_i e; rw [if_neg e]; exact aops_mono rest hK h
        · exact aops_mono rest hK h
        · exact h.elim
      · exact h.elim

theorem dstep_mono {o : Oper} {T : Tmps} {H : Heap} {nid : Nat} {K1 K2 : V → Blk → Prop} (hK : ∀ v b, K1 v b → K2 v b) (h : dstep P E o T H nid K1) : dstep P E o T H nid K2 := by
  unfold dstep at h ⊢
  split at h
  · split at h
    · obtain ⟨h0, v, b, h1, h2⟩ := h; exact ⟨h0, v, b, h1, hK _ _ h2⟩
    · exact h.elim
  · split at h
    · exact ⟨h.1, hK _ _ h.2⟩
    · exact ⟨h.1, hK _ _ h.2⟩
    · exact h.elim

theorem bstep_mono {o : Oper} {ms : List Nat} {T : Tmps} {H : Heap} {K1 K2 : Tmps → Heap → Prop} (hK : ∀ T H, K1 T H → K2 T H) (h : bstep P E n o ms T H K1) : bstep P E n o ms T H K2 := by
  unfold bstep at h ⊢
  split at h
  · split at h
    · obtain ⟨h0, r, H', h1, h2⟩ := h; exact ⟨h0, r, H', h1, hK _ _ h2⟩
    · exact h.elim
  · split at h
    · exact ⟨h.1, hK _ _ h.2⟩
    · exact h.elim

theorem drun_mono {all : List Oper} : ∀ (l : List Oper) (s L0 i : Nat) (plan : List PE) {T : Tmps} {H : Heap} {K1 K2 : Tmps → Heap → Prop}, (∀ T H, K1 T H → K2 T H) → drun P E n all s L0 i l plan T H K1 → drun P E n all s L0 i l plan T H K2
  | [], s, L0, i, plan, T, H, K1, K2, hK, h => by cases plan <;> exact hK _ _ h
  | o :: rest, s, L0, i, [], T, H, K1, K2, hK, h => h.elim
  | o :: rest, s, L0, i, pe :: plan, T, H, K1, K2, hK, h => by
    simp only [drun] at h ⊢
    split at h
    · rename_i hb
      rw [if_pos hb]
      exact ⟨h.1, bstep_mono (fun T H h => drun_mono rest _ _ _ plan hK h) h.2⟩
    · rename_i hb
      rw [if_neg hb]
      split at h
      · exact dstep_mono (fun v b h => drun_mono rest _ _ _ plan hK h) h
      · split at h
        · split at h
          · split at h
            · rename_i e; rw [if_pos e]; exact dstep_mono (fun v b h => drun_mono rest _ _ _ plan hK h) h
            · rename_i e; rw [if_neg e]; exact drun_mono rest _ _ _ plan hK h
          · exact drun_mono rest _ _ _ plan hK h
          · exact h.elim
        · exact h.elim

theorem aloop_mono {F : Tmps → Heap → (Ex → Tmps → Heap → Prop) → Prop} (hF : ∀ (T : Tmps) (H : Heap) (Q1 Q2 : Ex → Tmps → Heap → Prop), (∀ e T H, Q1 e T H → Q2 e T H) → F T H Q1 → F T H Q2) {Q1 Q2 : Ex → Tmps → Heap → Prop} (hQ : ∀ e T H, Q1 e T H → Q2 e T H) :
    ∀ (k : Nat) {T : Tmps} {H : Heap}, aloop m F Q1 k T H → aloop m F Q2 k T H
  | 0, _, _, h => h.elim
  | k + 1, T, H, h => hF _ _ _ _ (fun e T' H' h => by
      cases e with
      | normal => obtain ⟨T'', H'', h1, h2⟩ := h; exact ⟨T'', H'', h1, aloop_mono hF hQ k h2⟩
      | exit i => exact hQ _ _ _ h
      | ret => exact hQ _ _ _ h) h

theorem awp_mono : ∀ (c : Code) {T : Tmps} {H : Heap} {Q1 Q2 : Ex → Tmps → Heap → Prop}, (∀ e T H, Q1 e T H → Q2 e T H) → awp P E n m c T H Q1 → awp P E n m c T H Q2
  | .skip, _, _, _, _, hQ, h => hQ _ _ _ h
  | .label _, _, _, _, _, hQ, h => hQ _ _ _ h
  | .exit _, _, _, _, _, hQ, h => hQ _ _ _ h
  | .ret, _, _, _, _, hQ, h => hQ _ _ _ h
  | .region _ ops false, _, _, _, _, hQ, h => aops_mono _ (hQ .normal) h
  | .region _ ops true, _, _, _, _, hQ, ⟨plan, h1, h2⟩ => ⟨plan, h1, drun_mono _ _ _ _ _ (hQ .normal) h2⟩
  | .seq x y, _, _, _, _, hQ, h => awp_mono x (fun e T H h => by
      cases e with
      | normal => exact awp_mono y hQ h
      | exit i => exact hQ _ _ _ h
      | ret => exact hQ _ _ _ h) h
  | .cond c x y, T, H, Q1, Q2, hQ, h => by
    simp only [awp] at h ⊢
    split at h
    · split at h
      · rename_i hb; rw [if_pos hb]; exact awp_mono x hQ h
      · rename_i hb; rw [if_neg hb]; exact awp_mono y hQ h
    · exact h.elim
  | .block id x, _, _, _, _, hQ, h => awp_mono x (fun e T H h => by
      cases e with
      | normal => exact hQ _ _ _ h
      | exit i =>
        simp only at h ⊢
        split at h
        · rename_i e; rw [if_pos e]; exact hQ _ _ _ h
        · rename_i e; rw [if_neg e]; exact hQ _ _ _ h
      | ret => exact hQ _ _ _ h) h
  | .loop x, _, _, _, _, hQ, ⟨T', H', h1, k, h2⟩ => ⟨T', H', h1, k, aloop_mono (F := awp P E n m x) (fun _ _ _ _ hq h => awp_mono x hq h) hQ k h2⟩
  | .rangeFunc .., _, _, _, _, _, h => h.elim
  | .scope _, _, _, _, _, _, h => h.elim
  | .goto _, _, _, _, _, _, h => h.elim
  | .refuse _, _, _, _, _, _, h => h.elim

/-- A LOOP, by a measure; the heap as it was. -/
theorem wloop_ind {σ : Type} {x : Code} {T : Tmps} {H : Heap} {Q : Ex → Tmps → Heap → Prop} (μ : σ → Nat) (TT : σ → Tmps) (HH : σ → Heap) (I : σ → Prop) (s0 : σ) (h0 : I s0) (hw : Weak m T H (TT s0) (HH s0))
    (hF : ∀ s, I s → awp P E n m x (TT s) (HH s) fun e T' H' => match e with
      | .normal => ∃ s', I s' ∧ μ s' < μ s ∧ Weak m T' H' (TT s') (HH s')
      | e => Q e T' H') : wloop P E n m x T H Q :=
  ⟨_, _, hw, aloop_ind (F := awp P E n m x) μ TT HH (fun _ _ _ _ hq h => awp_mono x hq h) I hF s0 h0⟩

/-- A loop that counts. -/
theorem wloop_count {x : Code} {T : Tmps} {H : Heap} {Q : Ex → Tmps → Heap → Prop} (N : Nat) (TT : Nat → Tmps) (HH : Nat → Heap) (I : Nat → Prop) (h0 : I 0) (hw : Weak m T H (TT 0) (HH 0))
    (hF : ∀ i, i < N → I i → awp P E n m x (TT i) (HH i) fun e T' H' => match e with
      | .normal => I (i + 1) ∧ Weak m T' H' (TT (i + 1)) (HH (i + 1))
      | e => Q e T' H')
    (hN : I N → awp P E n m x (TT N) (HH N) fun e T' H' => match e with
      | .normal => False
      | e => Q e T' H') : wloop P E n m x T H Q := by
  refine wloop_ind (σ := Nat) (fun i => N - i) TT HH (fun i => i ≤ N ∧ I i) 0 ⟨Nat.zero_le _, h0⟩ hw (fun i ⟨hi, hI⟩ => ?_)
  rcases Nat.lt_or_ge i N with h | h
  · exact awp_mono x (fun e T' H' he => by
      cases e with
      | normal => exact ⟨i + 1, ⟨h, he.1⟩, by omega, he.2⟩
      | exit i => exact he
      | ret => exact he) (hF i h hI)
  · have : i = N := by omega
    subst this
    exact awp_mono x (fun e T' H' he => by
      cases e with
      | normal => exact he.elim
      | exit i => exact he
      | ret => exact he) (hN hI)

end

/-! ### blocks dropped -/

mutual
def V.lower (n : Nat) : V → Bool
  | .d _ => true
  | .nils => true
  | .ptr id _ _ => decide (id < n)
  | .own id _ _ => decide (id < n)
  | .agg vs => lowerL n vs
  | .tuple vs => lowerL n vs
  | .func _ vs => lowerL n vs
def lowerL (n : Nat) : List V → Bool
  | [] => true
  | v :: r => V.lower n v && lowerL n r
end

def Blk.lower (n : Nat) : Blk → Bool
  | .box _ cells => lowerL n cells
  | _ => true

mutual
theorem V.ren_below {n : Nat} {ρ : Nat → Nat} (h : ∀ i, i < n → ρ i = i) : ∀ (v : V), V.lower n v = true → v.ren ρ = v
  | .d _, _ => rfl
  | .nils, _ => rfl
  | .ptr id i j, hb => by simp only [V.lower, decide_eq_true_eq] at hb; simp only [V.ren, h id hb]
  | .own id i j, hb => by simp only [V.lower, decide_eq_true_eq] at hb; simp only [V.ren, h id hb]
  | .agg vs, hb => by simp only [V.lower] at hb; simp only [V.ren, renL_below h vs hb]
  | .tuple vs, hb => by simp only [V.lower] at hb; simp only [V.ren, renL_below h vs hb]
  | .func f vs, hb => by simp only [V.lower] at hb; simp only [V.ren, renL_below h vs hb]
theorem renL_below {n : Nat} {ρ : Nat → Nat} (h : ∀ i, i < n → ρ i = i) : ∀ (vs : List V), lowerL n vs = true → renL ρ vs = vs
  | [], _ => rfl
  | v :: r, hb => by
    simp only [lowerL, Bool.and_eq_true] at hb
    simp only [renL, V.ren_below h v hb.1, renL_below h r hb.2]
end

theorem RenL.refl_below {n : Nat} {ρ : Nat → Nat} {H' : Heap} (h : ∀ i, i < n → ρ i = i) : ∀ (vs : List V), lowerL n vs = true → RenL ρ H' vs vs
  | [], _ => .nil
  | v :: r, hb => by
    simp only [lowerL, Bool.and_eq_true] at hb
    refine .cons ?_ (RenL.refl_below h r hb.2)
    have := Ren.same (ρ := ρ) (H' := H') v
    rwa [V.ren_below h v hb.1] at this

theorem hget_take : ∀ (H : Heap) (n i : Nat), hget (H.take n) i = if i < n then hget H i else .unborn
  | [], n, i => by simp [hget]
  | b :: H, 0, i => by simp [hget]
  | b :: H, n + 1, 0 => by simp [hget]
  | b :: H, n + 1, i + 1 => by simp [hget, hget_take H n i]

theorem tget_mem {T' : Tmps} {t : Nat} : tget T' t = .d .undef ∨ ∃ q ∈ T', q.1 = t ∧ tget T' t = q.2 := by
  induction T' with
  | nil => exact .inl rfl
  | cons q r ih =>
    simp only [tget]
    split
    · rename_i e; exact .inr ⟨q, List.mem_cons_self .., e.symm, rfl⟩
    · rcases ih with h | ⟨q', h1, h2, h3⟩
      · exact .inl h
      · exact .inr ⟨q', List.mem_cons_of_mem _ h1, h2, h3⟩

/-- SLOTS FORGOTTEN, AND THE LAST BLOCKS. -/
theorem Weak.trim {T T' : Tmps} {H : Heap} (n : Nat) (hT : ∀ q ∈ T', tget T q.1 = q.2 ∧ V.lower n q.2 = true) (hB : ∀ b ∈ H.take n, Blk.lower n b = true) : Weak 0 T H T' (H.take n) := by
  let ρ : Nat → Nat := fun i => if i < n then i else i + H.length
  have hρ : ∀ i, i < n → ρ i = i := fun i h => by simp [ρ, h]
  have hmem : ∀ i, i < n → hget H i ≠ .unborn → hget H i ∈ H.take n := fun i h hu => by
    clear hT hB hρ
    have hlt : i < H.length := by
      rcases Nat.lt_or_ge i H.length with h | h
      · exact h
      · exact absurd (hget_length H i h) hu
    have : hget H i = H[i] := by
      clear h hu
      induction H generalizing i with
      | nil => simp at hlt
      | cons b H ih =>
        cases i with
        | zero => rfl
        | succ i => simpa [hget] using ih i (by simpa using hlt)
    rw [this]
    exact List.mem_take_iff_getElem.2 ⟨i, by omega, rfl⟩
  refine Weak.ren ρ (fun t => ?_) (fun i hu => ?_) (fun i hu => ?_) (fun i j hi hj he hu => ?_)
  · rcases tget_mem (T' := T') (t := t) with h | ⟨q, h1, rfl, h3⟩
    · rw [h]; exact .undef _
    · obtain ⟨h4, h5⟩ := hT q h1
      rw [h3, h4]
      have := Ren.same (ρ := ρ) (H' := H.take n) q.2
      rwa [V.ren_below hρ q.2 h5] at this
  · rw [hget_take] at hu
    by_cases hi : i < n
    · rw [if_pos hi] at hu
      have hb := hB _ (hmem i hi hu)
      have hg : hget (H.take n) i = hget H i := by rw [hget_take, if_pos hi]
      cases hx : hget H i with
      | unborn => exact absurd hx hu
      | dead => exact .dead (by rw [hg, hx])
      | box fz cells => rw [hx] at hb; exact .box fz cells cells (by rw [hg, hx]) (by rw [hρ i hi, hx]) (RenL.refl_below hρ cells hb)
      | dat fz sz els => exact .dat fz sz els (by rw [hg, hx]) (by rw [hρ i hi, hx])
    · rw [if_neg hi] at hu; exact absurd rfl hu
  · rw [hget_take] at hu
    by_cases hi : i < n
    · rw [if_pos hi] at hu; rw [hρ i hi]; exact hu
    · simp only [ρ]; rw [if_neg hi]; exact hget_length H _ (by omega)
  · rw [hget_take] at hi hj
    have h1 : i < n := Classical.byContradiction fun h => by rw [if_neg h] at hi; exact hi rfl
    have h2 : j < n := Classical.byContradiction fun h => by rw [if_neg h] at hj; exact hj rfl
    rwa [hρ i h1, hρ j h2] at he

theorem Weak.trims {T T' : Tmps} {H H' : Heap} (n : Nat) (hH : H.take n = H') (hT : ∀ q ∈ T', tget T q.1 = q.2 ∧ V.lower n q.2 = true) (hB : ∀ b ∈ H', Blk.lower n b = true) : Weak 0 T H T' H' := by
  subst hH; exact Weak.trim n hT hB

end Go.Proofs.Ythpapgbpmkgfeaa.AM
