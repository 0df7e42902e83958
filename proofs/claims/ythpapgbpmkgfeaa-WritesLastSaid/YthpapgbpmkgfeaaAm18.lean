/- A region that draws its order: whatever order is drawn (the proof). -/
import Derived.Test.YthpapgbpmkgfeaaAm17
set_option linter.all false
namespace Go.Proofs.Ythpapgbpmkgfeaa.AM
open Go Go.RowKit

def dstAt (all : Array Oper) (j : Nat) : Option Nat := (all[j]?).bind (·.dst)

/-- The slots behind those of k operations from i on that p lets by. -/
def gT (n : Nat) (all : Array Oper) (R : Nat → V × Blk) (p : Nat → Bool) : Nat → Nat → Tmps → Tmps
  | 0, _, T => T
  | k + 1, i, T => gT n all R p k (i + 1) (if p i then tput n T (dstAt all i) (R i).1 else T)

def gH (s L0 : Nat) (R : Nat → V × Blk) (p : Nat → Bool) : Nat → Nat → Heap → Heap
  | 0, _, H => H
  | k + 1, i, H => gH s L0 R p k (i + 1) (if p i then hput H (L0 + (i - s)) (R i).2 else H)

section
variable {P : Program} {E : Env} {C : Ctx} {φ φ' : Nat → Option Loc} {S S' : Nat → Prop} {H H' : Heap} {w w' : World} {T T' : Tmps} {a : Act} {n m : Nat} {all : Array Oper} {plan : List PE} {R R' : Nat → V × Blk} {p q : Nat → Bool} {s L0 : Nat}

theorem tget_tput_ne {T : Tmps} {dst : Option Nat} {v : V} {t : Nat} (h : dst ≠ some t) : tget (tput n T dst v) t = tget T t := by
  cases dst with
  | none => rfl
  | some d =>
    simp only [tput]
    split
    · simp only [tget]; rw [if_neg (fun e => h (by rw [e]))]
    · rfl

theorem tget_tput_congr {T T' : Tmps} {dst : Option Nat} {v : V} (h : ∀ t, tget T t = tget T' t) (t : Nat) : tget (tput n T dst v) t = tget (tput n T' dst v) t := by
  cases dst with
  | none => exact h t
  | some d =>
    simp only [tput]
    split
    · simp only [tget]; split
      · rfl
      · exact h t
    · exact h t

theorem tget_tput_eq {T : Tmps} {v : V} {t : Nat} (h : t < n) : tget (tput n T (some t) v) t = v := by simp [tput, h, tget]

theorem tget_tput_cong1 {T T' : Tmps} {dst : Option Nat} {v : V} {t : Nat} (h : tget T t = tget T' t) : tget (tput n T dst v) t = tget (tput n T' dst v) t := by
  by_cases hd : dst = some t
  · subst hd
    simp only [tput]
    split
    · simp [tget]
    · exact h
  · rw [tget_tput_ne hd, tget_tput_ne hd]; exact h

theorem gT_same {t : Nat} : ∀ (k i : Nat) (T T' : Tmps), (∀ j, i ≤ j → j < i + k → dstAt all j = some t → p j = q j) → tget T t = tget T' t → tget (gT n all R p k i T) t = tget (gT n all R q k i T') t
  | 0, _, _, _, _, h => h
  | k + 1, i, T, T', hpq, h => by
    simp only [gT]
    refine gT_same k (i + 1) _ _ (fun j h1 h2 => hpq j (by omega) (by omega)) ?_
    by_cases hd : dstAt all i = some t
    · rw [hpq i (by omega) (by omega) hd]
      split
      · exact tget_tput_cong1 h
      · exact h
    · have e1 : tget (if p i = true then tput n T (dstAt all i) (R i).1 else T) t = tget T t := by split; exact tget_tput_ne hd; rfl
      have e2 : tget (if q i = true then tput n T' (dstAt all i) (R i).1 else T') t = tget T' t := by split; exact tget_tput_ne hd; rfl
      rw [e1, e2]; exact h

theorem gT_un {t : Nat} : ∀ (k i : Nat) (T : Tmps), (∀ j, i ≤ j → j < i + k → p j = true → dstAt all j ≠ some t) → tget (gT n all R p k i T) t = tget T t
  | 0, _, _, _ => rfl
  | k + 1, i, T, h => by
    simp only [gT]
    rw [gT_un k (i + 1) _ (fun j h1 h2 => h j (by omega) (by omega))]
    split
    · rename_i hp; exact tget_tput_ne (h i (by omega) (by omega) hp)
    · rfl

theorem gT_last {t j : Nat} (hj : dstAt all j = some t) (ht : t < n) (hp : p j = true) : ∀ (k i : Nat) (T : Tmps), i ≤ j → j < i + k → (∀ l, j < l → l < i + k → p l = true → dstAt all l ≠ some t) → tget (gT n all R p k i T) t = (R j).1
  | 0, i, _, h1, h2, _ => by omega
  | k + 1, i, T, h1, h2, h => by
    simp only [gT]
    by_cases e : i = j
    · subst e
      rw [gT_un k (i + 1) _ (fun l h3 h4 => h l (by omega) (by omega)), if_pos hp, hj]
      exact tget_tput_eq ht
    · exact gT_last hj ht hp k (i + 1) _ (by omega) (by omega) (fun l h3 h4 => h l h3 (by omega))

theorem gT_congrR : ∀ (k i : Nat) (T : Tmps), (∀ j, i ≤ j → j < i + k → R j = R' j) → gT n all R p k i T = gT n all R' p k i T
  | 0, _, _, _ => rfl
  | k + 1, i, T, h => by
    simp only [gT]
    rw [h i (by omega) (by omega), gT_congrR k (i + 1) _ (fun j h1 h2 => h j (by omega) (by omega))]

theorem gH_congrR : ∀ (k i : Nat) (H : Heap), (∀ j, i ≤ j → j < i + k → R j = R' j) → gH s L0 R p k i H = gH s L0 R' p k i H
  | 0, _, _, _ => rfl
  | k + 1, i, H, h => by
    simp only [gH]
    rw [h i (by omega) (by omega), gH_congrR k (i + 1) _ (fun j h1 h2 => h j (by omega) (by omega))]

theorem gH_get : ∀ (k i : Nat) (H : Heap) (id : Nat), s ≤ i → hget (gH s L0 R p k i H) id = if L0 + (i - s) ≤ id ∧ id < L0 + (i - s) + k ∧ p (s + (id - L0)) = true then (R (s + (id - L0))).2 else hget H id
  | 0, i, H, id, _ => by simp only [gH]; rw [if_neg (by omega)]
  | k + 1, i, H, id, hs => by
    simp only [gH]
    rw [gH_get k (i + 1) _ id (by omega)]
    by_cases h1 : L0 + (i + 1 - s) ≤ id ∧ id < L0 + (i + 1 - s) + k ∧ p (s + (id - L0)) = true
    · rw [if_pos h1, if_pos ⟨by omega, by omega, h1.2.2⟩]
    · rw [if_neg h1]
      by_cases h2 : id = L0 + (i - s)
      · have e : s + (id - L0) = i := by omega
        rw [e]
        by_cases hp : p i = true
        · rw [if_pos hp, hget_hput, if_pos h2, if_pos ⟨by omega, by omega, hp⟩]
        · rw [if_neg hp, if_neg (fun h => hp h.2.2)]
      · have e1 : hget (if p i = true then hput H (L0 + (i - s)) (R i).2 else H) id = hget H id := by
          split
          · rw [hget_hput, if_neg h2]
          · rfl
        rw [e1, if_neg (fun h => h1 ⟨by omega, by omega, h.2.2⟩)]

theorem maskT_get (ms : List Nat) (T : Tmps) (t : Nat) : tget (maskT ms T) t = if t ∈ ms then .d .undef else tget T t := by
  unfold maskT
  induction ms with
  | nil => simp
  | cons x r ih =>
    simp only [List.map_cons, List.cons_append, tget]
    by_cases h : t = x
    · subst h; simp
    · rw [if_neg h, ih]; simp [h]

theorem maskH_get (id : Nat) : ∀ (mi : List Nat) (H : Heap), hget (maskH s L0 mi H) id = if ∃ k ∈ mi, s ≤ k ∧ id = L0 + (k - s) then .unborn else hget H id
  | [], H => by simp [maskH]
  | k :: r, H => by
    simp only [maskH]
    rw [maskH_get id r]
    by_cases h1 : ∃ k ∈ r, s ≤ k ∧ id = L0 + (k - s)
    · rw [if_pos h1, if_pos]
      obtain ⟨k', hk', h⟩ := h1
      exact ⟨k', by simp [hk'], h⟩
    · rw [if_neg h1]
      by_cases h2 : s ≤ k ∧ id = L0 + (k - s)
      · rw [if_pos h2.1, hget_hput, if_pos h2.2, if_pos ⟨k, by simp, h2⟩]
      · have : ¬ ∃ k' ∈ k :: r, s ≤ k' ∧ id = L0 + (k' - s) := by
          rintro ⟨k', hk', h⟩
          rcases List.mem_cons.1 hk' with rfl | hk'
          · exact h2 h
          · exact h1 ⟨k', hk', h⟩
        rw [if_neg this]
        split
        · rename_i h3
          rw [hget_hput, if_neg (fun e => h2 ⟨h3, e⟩)]
        · rfl

/-- Nothing was made: its number is not used. -/
theorem Stands.bury (hst : Stands C n T H φ S a w) {nid : Nat} (hu : hget H nid = .unborn) : Stands C n T (hput H nid .dead) φ S a w ∧ Step φ S H w φ S (hput H nid .dead) w := by
  have hs : Step φ S H w φ S (hput H nid .dead) w := ⟨.refl _ _, fun id hid => by
    have hne : id ≠ nid := fun e => hid (by rw [e]; exact hu)
    rw [hget_hput, if_neg hne]
    exact (Step.refl (φ := φ) (S := S) (H := H) (w := w)).keepH id hid⟩
  refine ⟨⟨⟨hst.heap.n0, hst.heap.own, hst.heap.vis, hst.heap.inj, fun id => ?_, hst.heap.low⟩, hst.tmps.step hs, hst.size, hst.defers⟩, hs⟩
  rw [hget_hput]
  by_cases e : id = nid
  · rw [if_pos e]
    have := hst.heap.blk nid
    rw [hu] at this
    rw [e]; exact this
  · rw [if_neg e]; exact (hst.heap.blk id).keep hs rfl (fun _ _ => ⟨rfl, Iff.rfl⟩)

theorem RSpec.bury {f : Nat} {vs : List V} {r : V} {H H' : Heap} {nid : Nat} (h : RSpec P f vs H r H') (hu : hget H' nid = .unborn) : RSpec P f vs H r (hput H' nid .dead) := by
  refine ⟨h.1, fun C φ S w cs hH hv => (h.2 C φ S w cs hH hv).mono ?_⟩
  rintro e w' ⟨c, φ', S', rfl, h1, h2, h3, h4⟩
  have hst : Stands C 1 [(0, r)] H' φ' S' { tmps := #[c], defers := [] } w' := ⟨h2, fun t => by
    simp only [tget]
    split
    · rename_i e; subst e; exact h1
    · exact .d _ _ (.undef _), rfl, rfl⟩
  obtain ⟨g1, g2⟩ := hst.bury hu
  have := g1.tmps 0
  exact ⟨c, φ', S', rfl, by simpa [tget] using this, g1.heap, h3.trans g2 h4.size (Nat.le_refl _), h4⟩

theorem DSpec.flat {f : Nat} {vs : List V} {ds : List D} {r : D} {H : Heap} {nid : Nat} (hx : xports H 12 vs = some ds) (h : CSpec P f ds r) (hr : r.flat = true) : DSpec P f vs H nid (.d r) .dead := fun H' hm hu =>
  (CSpec.flat 12 (xports_more hm 12 _ ds hx) h hr).bury hu

theorem DSpec.still {f : Nat} {vs : List V} {ds : List D} {r : D} {H : Heap} {nid : Nat} (hx : xports H 12 vs = some ds) (h : CSpec P f ds r) (hi : tidss H 12 vs = []) : DSpec P f vs H nid (.d r) .dead := fun H' hm hu => by
  have := CSpec.ice (H := H') 12 (xports_more hm 12 _ ds hx) h
  have hi' : tidss H' 12 vs = [] := tidss_nil 12 _ hi
  rw [hi'] at this
  exact this.bury hu

/-- What is told of an operation, wherever it comes. -/
def Done (C : Ctx) (n m : Nat) (φ : Nat → Option Loc) (S : Nat → Prop) (H : Heap) (w : World) (T1 : Tmps) (H1 : Heap) : Act → World → Prop := fun a' w' =>
  ∃ φ' S', Stands C n T1 H1 φ' S' a' w' ∧ StepM m φ S H w φ' S' H1 w' ∧ Kp C w w'

theorem hget_len : ∀ (H : Heap), hget H H.length = .unborn
  | [] => rfl
  | _ :: H => hget_len H

/-- An operation that reads slots alone. -/
theorem evop_pure {o : Oper} (ho : pureOp o = true) {nid : Nat} {p : Prop} {v : V} {ch : Ch} (h : evop E T H nid o.op = some (p, v, ch)) : ch = .no ∧ ∀ nid', evop E T [] nid' o.op = some (p, v, .no) := by
  have hg : (match o.op with
    | .move _ | .assign _ | .pick .. | .unOp .. | .binOp .. | .extract .. | .convert .. => true
    | _ => false) = true := by unfold pureOp at ho; simp only [Bool.and_eq_true] at ho; exact ho.2
  have key : ch = .no → (∀ nid', evop E T [] nid' o.op = evop E T H nid o.op) → ch = .no ∧ ∀ nid', evop E T [] nid' o.op = some (p, v, .no) := fun h1 h2 => ⟨h1, fun nid' => by rw [h2 nid', h, h1]⟩
  revert h hg key
  cases o.op with
  | move x => intro h hg key; exact key (by simp only [evop] at h; split at h <;> simp [ok] at h; exact h.2.2.symm) (fun _ => rfl)
  | assign x => intro h hg key; exact key (by simp only [evop] at h; split at h <;> simp [ok] at h; exact h.2.2.symm) (fun _ => rfl)
  | pick c a b =>
    intro h hg key
    refine key ?_ (fun _ => rfl)
    simp only [evop] at h
    split at h
    · split at h <;> simp [ok] at h; exact h.2.2.symm
    · split at h <;> simp [ok] at h; exact h.2.2.symm
    · cases h
  | unOp u t x =>
    intro h hg key
    refine key ?_ (fun _ => by cases u <;> rfl)
    cases u <;> simp only [evop] at h <;> first | cases h | (split at h <;> simp [ok] at h; exact h.2.2.symm)
  | extract x i =>
    intro h hg key
    refine key ?_ (fun _ => rfl)
    simp only [evop] at h
    split at h
    · split at h <;> simp [ok] at h; exact h.2.2.symm
    · split at h <;> simp [ok] at h; exact h.2.2.symm
    · cases h
  | convert s t x =>
    intro h hg key
    refine key ?_ (fun _ => rfl)
    simp only [evop] at h
    split at h
    · split at h <;> simp [ok] at h; exact h.2.2.symm
    · cases h
  | binOp op t x y t' =>
    intro h hg key
    refine key ?_ (fun _ => rfl)
    simp only [evop] at h
    split at h
    · split at h
      · split at h
        · simp at h; exact h.2.2.symm
        · cases h
      · cases h
    · split at h
      · split at h <;> simp [ok] at h; exact h.2.2.symm
      · split at h <;> simp [ok] at h; exact h.2.2.symm
      · cases h
    · split at h
      · split at h
        · split at h <;> simp [ok] at h <;> exact h.2.2.symm
        · cases h
      · cases h
  | _ => intro _ hg; simp at hg

theorem dstep_sound (hE : EOk P E) {o : Oper} {nid : Nat} {K : V → Blk → Prop} (h : dstep P E o T H nid K) :
    ∃ v b, K v b ∧ (∀ {T' : Tmps} {H' : Heap} {C : Ctx} {φ : Nat → Option Loc} {S : Nat → Prop} {a : Act} {w : World} (Q' : Exit → Act → World → Prop), Stands C n T' H' φ S a w → More T H T' H' → hget H' nid = .unborn →
      o.wp P a w (Done C n m φ S H' w (tput n T' o.dst v) (hput H' nid b)) Q') ∧
      (pureOp o = true → b = .dead ∧ ∀ {T' : Tmps} {H' : Heap} {C : Ctx} {φ : Nat → Option Loc} {S : Nat → Prop} {a : Act} {w : World} (Q' : Exit → Act → World → Prop), Stands C n T' H' φ S a w → (∀ t, tget T t = .d .undef ∨ tget T' t = tget T t) →
        o.wp P a w (Done C n m φ S H' w (tput n T' o.dst v) H') Q') := by
  have other : ∀ {v : V} {ch : Ch} {p : Prop} {b : Blk}, evop E T H nid o.op = some (p, v, ch) → p → ((ch = .no ∧ b = .dead) ∨ ch = .new b) → ∀ {T' : Tmps} {H' : Heap} {C : Ctx} {φ : Nat → Option Loc} {S : Nat → Prop} {a : Act} {w : World} (Q' : Exit → Act → World → Prop), Stands C n T' H' φ S a w → More T H T' H' → hget H' nid = .unborn →
      o.wp P a w (Done C n m φ S H' w (tput n T' o.dst v) (hput H' nid b)) Q' := by
    intro v ch p b he hp hch T' H' C φ S a w Q' hst hm hu
    obtain ⟨c, w', φ', hg, hv, hH, hs, hk⟩ := evop_sound hE (evop_more hm he) hp hu hst.heap hst.tmps
    have hn : Done C n m φ S H' w (tput n T' o.dst v) (hput H' nid b) (a.put o.dst c) w' := by
      have hst' := hst.put (o := o) hH hs hv
      rcases hch with ⟨rfl, rfl⟩ | rfl
      · obtain ⟨g1, g2⟩ := hst'.bury hu
        exact ⟨φ', S, g1, (hs.trans g2 hk.size (Nat.le_refl _)).toM hk.size, hk⟩
      · exact ⟨φ', S, hst', hs.toM hk.size, hk⟩
    unfold Oper.wp
    rcases hg with hg | ⟨hg, rfl⟩ <;> rw [hg] <;> exact hn
  unfold dstep at h
  split at h
  · rename_i fo args tys hop
    split at h
    · rename_i f gg hc
      obtain ⟨hnu, v, b, hD, hK⟩ := h
      refine ⟨v, b, hK, ?_, fun hp => absurd hp (by simp [pureOp, hop])⟩
      intro T' H' C φ S a w Q' hst hm hu
      have hfo : ev T' fo = ev T fo := hm.ev (by
        revert hc
        unfold calleeOf
        generalize ev T fo = v
        intro hc
        cases v with
        | d x => cases x <;> simp_all [V.isUndef]
        | _ => rfl)
      have hc' : calleeOf T' fo = some (f, gg) := by unfold calleeOf at hc ⊢; rw [hfo]; exact hc
      have hargs' : args.toList.map (ev T') = args.toList.map (ev T) := by
        apply List.map_congr_left
        intro x hx
        have := List.all_eq_true.1 hnu x hx
        exact hm.ev (by simpa using this)
      have hr : RSpec P f (gg (args.toList.map (ev T'))) H' v (hput H' nid b) := by
        rw [hargs']; exact hD H' hm.blk hu
      obtain ⟨fs, cs, e1, e2⟩ := calleeOf_rel hst.tmps hc'
      have hargs := evs_rel hst.tmps args.toList
      have hcall := hr.2 C φ S w (fs ++ (args.toList.map a.eval ++ cs)) hst.heap (e2 _ _ hargs)
      have hrun : (execOp a.eval o).run P w = .ok (.enter f (fs ++ (args.toList.map a.eval ++ cs)).toArray) w := by
        have harr : fs.toArray ++ args.map a.eval ++ cs.toArray = (fs ++ (args.toList.map a.eval ++ cs)).toArray := by apply Array.ext'; simp
        have hcf := hr.1 (fs ++ (args.toList.map a.eval ++ cs)).toArray w
        simp [execOp, hop, resolve, e1, Deferred.ofValue, invoke, harr, -List.append_toArray, hcf]
      unfold Oper.wp
      rw [hrun]
      refine hcall.mono ?_
      rintro e w' ⟨c, φ', S', rfl, h1, h2, h3, h4⟩
      exact ⟨φ', S', hst.put (o := o) h2 h3 h1, h3.toM h4.size, h4⟩
    · exact h.elim
  · split at h
    · rename_i p v he
      refine ⟨v, .dead, h.2, other he h.1 (.inl ⟨rfl, rfl⟩), fun hp => ⟨rfl, ?_⟩⟩
      intro T' H' C φ S a w Q' hst hm
      have he' := (evop_pure hp he).2 H'.length
      have hu : hget H' H'.length = .unborn := hget_len H'
      obtain ⟨c, w', φ', hg, hv, hH, hs, hk⟩ := evop_sound hE (evop_more ⟨hm, fun id => .inl rfl⟩ he') h.1 hu hst.heap hst.tmps
      have hn : Done C n m φ S H' w (tput n T' o.dst v) H' (a.put o.dst c) w' := ⟨φ', S, hst.put (o := o) hH hs hv, hs.toM hk.size, hk⟩
      unfold Oper.wp
      rcases hg with hg | ⟨hg, rfl⟩ <;> rw [hg] <;> exact hn
    · rename_i p v b he
      refine ⟨v, b, h.2, other he h.1 (.inr rfl), fun hp => ?_⟩
      have := (evop_pure hp he).1
      cases this
    · exact h.elim

/-- A barrier. -/
theorem bstep_sound (hE : EOk P E) {o : Oper} {ms : List Nat} {T'' : Tmps} {K : Tmps → Heap → Prop} {Q : Exit → Act → World → Prop} (hst : Stands C n T'' H φ S a w) (hT : ∀ t, t ∉ ms → tget T'' t = tget T t) (h : bstep P E n o ms T H K) :
    o.wp P a w (fun a' w' => ∃ r H1 φ' S', K (tput n T o.dst r) H1 ∧ Stands C n (tput n T'' o.dst r) H1 φ' S' a' w' ∧ StepM m φ S H w φ' S' H1 w' ∧ Kp C w w') Q := by
  have hm : More (maskT ms T) H T'' H := ⟨fun t => by
    rw [maskT_get]
    by_cases ht : t ∈ ms
    · rw [if_pos ht]; exact .inl rfl
    · rw [if_neg ht]; exact .inr (hT t ht), fun id => .inr rfl⟩
  unfold bstep at h
  split at h
  · rename_i fo args tys hop
    split at h
    · rename_i f gg hc
      obtain ⟨hnu, r, H1, hr, hK⟩ := h
      have hfo : ev T'' fo = ev (maskT ms T) fo := hm.ev (by
        revert hc
        unfold calleeOf
        generalize ev (maskT ms T) fo = v
        intro hc
        cases v with
        | d x => cases x <;> simp_all [V.isUndef]
        | _ => rfl)
      have hc' : calleeOf T'' fo = some (f, gg) := by unfold calleeOf at hc ⊢; rw [hfo]; exact hc
      have hargs' : args.toList.map (ev T'') = args.toList.map (ev (maskT ms T)) := by
        apply List.map_congr_left
        intro x hx
        have := List.all_eq_true.1 hnu x hx
        exact hm.ev (by simpa using this)
      rw [← hargs'] at hr
      obtain ⟨fs, cs, e1, e2⟩ := calleeOf_rel hst.tmps hc'
      have hargs := evs_rel hst.tmps args.toList
      have hcall := hr.2 C φ S w (fs ++ (args.toList.map a.eval ++ cs)) hst.heap (e2 _ _ hargs)
      have hrun : (execOp a.eval o).run P w = .ok (.enter f (fs ++ (args.toList.map a.eval ++ cs)).toArray) w := by
        have harr : fs.toArray ++ args.map a.eval ++ cs.toArray = (fs ++ (args.toList.map a.eval ++ cs)).toArray := by apply Array.ext'; simp
        have hcf := hr.1 (fs ++ (args.toList.map a.eval ++ cs)).toArray w
        simp [execOp, hop, resolve, e1, Deferred.ofValue, invoke, harr, -List.append_toArray, hcf]
      unfold Oper.wp
      rw [hrun]
      refine hcall.mono ?_
      rintro e w' ⟨c, φ', S', rfl, h1, h2, h3, h4⟩
      exact ⟨r, H1, φ', S', hK, hst.put (o := o) h2 h3 h1, h3.toM h4.size, h4⟩
    · exact h.elim
  · split at h
    · rename_i p v ch he
      have hu : hget H H.length = .unborn := hget_len H
      obtain ⟨c, w', φ', hg, hv, hH, hs, hk⟩ := evop_sound hE (evop_more hm he) h.1 hu hst.heap hst.tmps
      have hn : ∃ r H1 φ' S', K (tput n T o.dst r) H1 ∧ Stands C n (tput n T'' o.dst r) H1 φ' S' (a.put o.dst c) w' ∧ StepM m φ S H w φ' S' H1 w' ∧ Kp C w w' := ⟨v, _, φ', S, h.2, hst.put (o := o) hH hs hv, hs.toM hk.size, hk⟩
      unfold Oper.wp
      rcases hg with hg | ⟨hg, rfl⟩ <;> rw [hg] <;> exact hn
    · exact h.elim

theorem Stands.buryAll {H2 : Heap} (h : ∀ id, hget H2 id = hget H id ∨ (hget H id = .unborn ∧ hget H2 id = .dead)) (hst : Stands C n T H φ S a w) : Stands C n T H2 φ S a w ∧ Step φ S H w φ S H2 w := by
  have hs : Step φ S H w φ S H2 w := ⟨.refl _ _, fun id hu => by
    rcases h id with e | ⟨e, _⟩
    · rw [e]; exact (Step.refl (φ := φ) (S := S) (H := H) (w := w)).keepH id hu
    · exact absurd e hu⟩
  refine ⟨⟨⟨hst.heap.n0, hst.heap.own, hst.heap.vis, hst.heap.inj, fun id => ?_, hst.heap.low⟩, hst.tmps.step hs, hst.size, hst.defers⟩, hs⟩
  rcases h id with e | ⟨e1, e2⟩
  · rw [e]; exact (hst.heap.blk id).keep hs rfl (fun _ _ => ⟨rfl, Iff.rfl⟩)
  · have := hst.heap.blk id
    rw [e1] at this
    rw [e2]; exact this

end
end Go.Proofs.Ythpapgbpmkgfeaa.AM
