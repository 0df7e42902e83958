/- A region that draws its order: whatever order is drawn. -/
import Derived.Test.YthpapgbpmkgfeaaAm16
set_option linter.all false
namespace Go.Proofs.Ythpapgbpmkgfeaa.AM
open Go Go.RowKit

section
variable {P : Program} {E : Env} {C : Ctx} {φ φ' : Nat → Option Loc} {S S' : Nat → Prop} {H H' : Heap} {w w' : World} {T T' : Tmps} {a : Act} {n m : Nat}

mutual
theorem xport_more (hm : ∀ id, hget H id = .unborn ∨ hget H' id = hget H id) : ∀ (k : Nat) (v : V) (x : D), xport H k v = some x → xport H' k v = some x
  | 0, v, x, h => by simp [xport] at h
  | k + 1, v, x, h => by
    cases v with
    | ptr id i j =>
      rcases hm id with h1 | h1
      · simp [xport, h1] at h
      · simp only [xport, h1] at h ⊢
        split at h
        · rename_i fz cells hg
          split at h
          · split at h
            · rename_i ds hds
              simp only [xports_more hm k cells ds hds]; simp_all
            · cases h
          · cases h
        · split at h <;> simp_all
        · cases h
    | own id off len =>
      rcases hm id with h1 | h1
      · simp [xport, h1] at h
      · simp only [xport, h1] at h ⊢; exact h
    | agg vs =>
      simp only [xport] at h ⊢
      split at h
      · rename_i ds hds; simp only [xports_more hm k vs ds hds]; exact h
      · cases h
    | tuple vs =>
      simp only [xport] at h ⊢
      split at h
      · rename_i ds hds; simp only [xports_more hm k vs ds hds]; exact h
      · cases h
    | func f vs =>
      simp only [xport] at h ⊢
      split at h
      · rename_i ds hds; simp only [xports_more hm k vs ds hds]; exact h
      · cases h
    | d y => simpa [xport] using h
    | nils => simpa [xport] using h
theorem xports_more (hm : ∀ id, hget H id = .unborn ∨ hget H' id = hget H id) : ∀ (k : Nat) (vs : List V) (xs : List D), xports H k vs = some xs → xports H' k vs = some xs
  | 0, vs, xs, h => by simp [xports] at h
  | k + 1, [], xs, h => by simpa [xports] using h
  | k + 1, v :: r, xs, h => by
    simp only [xports] at h ⊢
    split at h
    · rename_i y ys hy hys
      simp only [xport_more hm k v y hy, xports_more hm k r ys hys]; exact h
    · cases h
end

mutual
theorem tids_nil : ∀ (k : Nat) (v : V), tids H k v = [] → tids H' k v = []
  | 0, v, _ => by simp [tids]
  | k + 1, v, h => by
    cases v with
    | ptr id i j => simp only [tids] at h; split at h <;> simp at h
    | own id off len => simp [tids] at h
    | agg vs => simp only [tids] at h ⊢; exact tidss_nil k vs h
    | tuple vs => simp only [tids] at h ⊢; exact tidss_nil k vs h
    | func f vs => simp only [tids] at h ⊢; exact tidss_nil k vs h
    | d y => simp [tids]
    | nils => simp [tids]
theorem tidss_nil : ∀ (k : Nat) (vs : List V), tidss H k vs = [] → tidss H' k vs = []
  | 0, vs, _ => by simp [tidss]
  | k + 1, [], _ => by simp [tidss]
  | k + 1, v :: r, h => by
    simp only [tidss, List.append_eq_nil_iff] at h ⊢
    exact ⟨tids_nil k v h.1, tidss_nil k r h.2⟩
end

/-! ### the same by other terms -/

theorem RV.congr (hH : ∀ id, hget H' id = hget H id) {v : V} {c : Value} (h : RV φ S H w v c) : RV φ S H' w v c :=
  h.step ⟨.refl _ _, fun id hu => by
    rw [hH]
    exact (Step.refl (φ := φ) (S := S) (H := H) (w := w)).keepH id hu⟩

theorem HRel.congr (hH : ∀ id, hget H' id = hget H id) (h : HRel C φ S H w) : HRel C φ S H' w :=
  ⟨h.n0, h.own, h.vis, h.inj, fun id => by
    rw [hH]
    exact (h.blk id).keep ⟨.refl _ _, fun id hu => by rw [hH]; exact (Step.refl (φ := φ) (S := S) (H := H) (w := w)).keepH id hu⟩ rfl (fun _ _ => ⟨rfl, Iff.rfl⟩), h.low⟩

theorem Stands.congr (hT : ∀ t, tget T' t = tget T t) (hH : ∀ id, hget H' id = hget H id) (h : Stands C n T H φ S a w) : Stands C n T' H' φ S a w :=
  ⟨h.heap.congr hH, fun t => by rw [hT]; exact (h.tmps t).congr hH, h.size, h.defers⟩

theorem StepM.congr {H2 : Heap} (hH : ∀ id, hget H2 id = hget H' id) (h : StepM m φ S H w φ' S' H' w') : StepM m φ S H w φ' S' H2 w' :=
  ⟨h.keepS, h.size, fun id hm hu => by rw [hH]; exact h.keepH id hm hu⟩

theorem StepM.congrL {H2 : Heap} (hH : ∀ id, hget H2 id = hget H id) (h : StepM m φ S H w φ' S' H' w') : StepM m φ S H2 w φ' S' H' w' :=
  ⟨h.keepS, h.size, fun id hm hu => by rw [hH] at hu ⊢; exact h.keepH id hm hu⟩

/-! ### what a plan says -/

section plan
variable {all : Array Oper} {plan : List PE}

theorem dstOk_iff {o ok : Oper} {ms : List Nat} (h : dstOk o ok ms = true) : ∀ t, ok.dst = some t → t ∈ ms ∧ o.dst ≠ some t := by
  intro t ht
  unfold dstOk at h
  rw [ht] at h
  simpa using h

theorem plan_at (hp : planOk all.toList plan = true) {i : Nat} {o : Oper} {e : PE} (ho : all[i]? = some o) (he : plan[i]? = some e) :
    (∀ d ∈ depsOf o, d < i) ∧ (∀ j ∈ e.B, ∃ d ∈ depsOf o, j = d ∨ j ∈ planB plan d) ∧
    (∀ (k : Nat) (ok : Oper), all[k]? = some ok → k = i ∨ k ∈ e.B ∨ i ∈ planB plan k ∨ (e.bar = false ∧ (i < k ∨ k ∈ e.mi) ∧ ∀ t, ok.dst = some t → t ∈ e.ms ∧ o.dst ≠ some t) ∨
      (e.bar = true ∧ k < i ∧ planLag plan k = true ∧ ∀ t, ok.dst = some t → t ∈ e.ms ∧ o.dst ≠ some t)) ∧
    (e.lag = true → pureOp o = true ∧ e.bar = false ∧ (∀ t, o.dst = some t → t ∈ e.ms) ∧ ∀ (k : Nat) (ok : Oper), all[k]? = some ok → k = i ∨ k ∈ e.B ∨ ∀ t, ok.dst = some t → t ∈ e.ms ∧ o.dst ≠ some t) := by
  have hi : i < all.size := (Array.getElem?_eq_some_iff.1 ho).1
  unfold planOk at hp
  simp only [Bool.and_eq_true, List.all_eq_true, List.mem_range, Array.length_toList] at hp
  have h := hp.2 i hi
  simp only [Array.getElem?_toList, ho, he, Bool.and_eq_true, List.all_eq_true, decide_eq_true_eq, List.any_eq_true, Bool.or_eq_true, beq_iff_eq, List.contains_iff_mem, List.mem_range, Array.length_toList] at h
  obtain ⟨⟨⟨h1, h2⟩, h4⟩, h3⟩ := h
  refine ⟨h1, fun j hj => ?_, fun k ok hk => ?_, fun hl => ?_⟩
  · obtain ⟨d, hd, hh⟩ := h2 j hj
    exact ⟨d, hd, hh.imp Eq.symm id⟩
  · have hk' : k < all.size := (Array.getElem?_eq_some_iff.1 hk).1
    have := h3 k hk'
    simp only [hk, Bool.or_eq_true, beq_iff_eq, List.contains_iff_mem, Bool.and_eq_true, decide_eq_true_eq] at this
    rcases this with (((h | h) | h) | h) | h
    · exact .inl h
    · exact .inr (.inl h)
    · exact .inr (.inr (.inl h))
    · exact .inr (.inr (.inr (.inl ⟨by simpa using h.1.1, h.1.2, dstOk_iff h.2⟩)))
    · exact .inr (.inr (.inr (.inr ⟨h.1.1.1, h.1.1.2, h.1.2, dstOk_iff h.2⟩)))
  · rcases h4 with h4 | h4
    · rw [hl] at h4; cases h4
    · obtain ⟨⟨⟨g1, g2⟩, g3⟩, g4⟩ := h4
      refine ⟨g1, by simpa using g2, fun t ht => by rw [ht] at g3; simpa using g3, fun k ok hk => ?_⟩
      have hk' : k < all.size := (Array.getElem?_eq_some_iff.1 hk).1
      have := g4 k hk'
      simp only [hk, Bool.or_eq_true, beq_iff_eq, List.contains_iff_mem] at this
      rcases this with (h | h) | h
      · exact .inl h
      · exact .inr (.inl h)
      · exact .inr (.inr (dstOk_iff h))

theorem plan_some (hp : planOk all.toList plan = true) {i : Nat} (hi : i < all.size) : ∃ e, plan[i]? = some e := by
  unfold planOk at hp
  simp only [Bool.and_eq_true, beq_iff_eq, Array.length_toList] at hp
  exact ⟨plan[i], by rw [List.getElem?_eq_getElem]⟩

theorem planB_lt (hp : planOk all.toList plan = true) : ∀ (i j : Nat), j ∈ planB plan i → i < all.size → j < i := by
  intro i
  induction i using Nat.strongRecOn with
  | _ i ih =>
    intro j hj hi
    obtain ⟨e, he⟩ := plan_some hp hi
    have ho : all[i]? = some all[i] := by simp [hi]
    obtain ⟨h1, h2, _, _⟩ := plan_at hp ho he
    simp only [planB, he] at hj
    obtain ⟨d, hd, hh⟩ := h2 j hj
    have hdi := h1 d hd
    rcases hh with rfl | hh
    · exact hdi
    · exact Nat.lt_trans (ih d hdi j hh (by omega)) hdi

/-- What is listed is closed. -/
def Closed (all : Array Oper) (listed : Array Bool) : Prop := ∀ (j : Nat) (o : Oper), listed.getD j false = true → all[j]? = some o → ∀ d ∈ depsOf o, listed.getD d false = true

theorem closed_B (hp : planOk all.toList plan = true) {listed : Array Bool} (hc : Closed all listed) : ∀ (i j : Nat) (o : Oper), all[i]? = some o → (∀ d ∈ depsOf o, listed.getD d false = true) → j ∈ planB plan i → listed.getD j false = true := by
  intro i
  induction i using Nat.strongRecOn with
  | _ i ih =>
    intro j o ho hd hj
    have hi : i < all.size := (Array.getElem?_eq_some_iff.1 ho).1
    obtain ⟨e, he⟩ := plan_some hp hi
    obtain ⟨h1, h2, _, _⟩ := plan_at hp ho he
    simp only [planB, he] at hj
    obtain ⟨d, hdd, hh⟩ := h2 j hj
    rcases hh with rfl | hh
    · exact hd j hdd
    · have hdi := h1 d hdd
      have hod : all[d]? = some all[d] := by simp
      exact ih d hdi j all[d] hod (hc d all[d] (hd d hdd) hod) hh

theorem ready_deps {listed : Array Bool} {j : Nat} (h : j ∈ Region.ready .any all listed) : listed.getD j true = false ∧ ∃ o, all[j]? = some o ∧ ∀ d ∈ depsOf o, listed.getD d false = true := by
  obtain ⟨h0, o, ho, hall⟩ := mem_ready.1 h
  refine ⟨h0, o, ho, fun d hd => ?_⟩
  simp only [depsOf, List.mem_map, List.mem_filter, Array.mem_toList_iff] at hd
  obtain ⟨e, ⟨he, hb⟩, rfl⟩ := hd
  exact hall e he hb

theorem not_ready {listed : Array Bool} (hsz : listed.size = all.size) (hp : planOk all.toList plan = true) (h : Region.ready .any all listed = []) : ∀ j, j < all.size → listed.getD j false = true := by
  intro j
  induction j using Nat.strongRecOn with
  | _ j ih =>
    intro hj
    cases hl : listed.getD j false with
    | true => rfl
    | false =>
      exfalso
      have hmem : j ∈ Region.ready .any all listed := by
        rw [mem_ready]
        refine ⟨?_, all[j], by simp, fun e he hb => ?_⟩
        · have hjs : j < listed.size := by omega
          simp [hjs] at hl ⊢; exact hl
        · obtain ⟨pe, hpe⟩ := plan_some hp hj
          have hlt := (plan_at hp (by simp : all[j]? = some all[j]) hpe).1 e.on (by
            simp only [depsOf, List.mem_map, List.mem_filter, Array.mem_toList_iff]
            exact ⟨e, ⟨he, hb⟩, rfl⟩)
          exact ih e.on hlt (by omega)
      rw [h] at hmem; simp at hmem

theorem Closed.set {listed : Array Bool} (hc : Closed all listed) {j : Nat} {o : Oper} (ho : all[j]? = some o) (hd : ∀ d ∈ depsOf o, listed.getD d false = true) : Closed all (listed.setIfInBounds j true) := by
  intro i oi hi hoi d hdd
  by_cases e : j = i
  · subst e
    rw [ho] at hoi; cases hoi
    exact getD_set_true (hd d hdd)
  · rw [getD_set_ne false e] at hi
    exact getD_set_true (hc i oi hi hoi d hdd)
end plan

end
end Go.Proofs.Ythpapgbpmkgfeaa.AM
