/- Calls, closed data out of values, and the code's meaning in the machine. -/
import Derived.Test.YthpapgbpmkgfeaaAm11
set_option linter.all false
namespace Go.Proofs.Ythpapgbpmkgfeaa.AM
open Go Go.RowKit

mutual
/-- A value as closed data: what it points to is read. -/
def xport (H : Heap) : Nat → V → Option D
  | 0, _ => none
  | n + 1, v => match v with
    | .d x => some x
    | .nils => some (.vec [])
    | .ptr id i j => match hget H id with
      | .box _ cells => if i = 0 then (match xports H n cells with | some ds => some (.imm (.agg ds) j) | none => none) else none
      | .dat _ _ els => match els[i]? with
        | some e => some (.imm e j)
        | none => none
      | _ => none
    | .own id off len => match hget H id with
      | .dat _ _ els => some (.vec ((els.drop off).take len))
      | _ => none
    | .agg vs => match xports H n vs with
      | some ds => some (.agg ds)
      | none => none
    | .tuple vs => match xports H n vs with
      | some ds => some (.tuple ds)
      | none => none
    | .func f vs => match xports H n vs with
      | some ds => some (.func f ds)
      | none => none
def xports (H : Heap) : Nat → List V → Option (List D)
  | 0, _ => none
  | _ + 1, [] => some []
  | n + 1, v :: r => match xport H n v, xports H n r with
    | some x, some xs => some (x :: xs)
    | _, _ => none
end

/-- No address in it. -/
def D.scalar : D → Bool
  | .bool _ | .int _ _ | .nilp | .nilf | .undef => true
  | _ => false
def D.flat : D → Bool
  | .agg cs | .tuple cs => cs.all D.scalar
  | x => x.scalar

/-- A call of it enters it. -/
def Callable (P : Program) (f : Nat) : Prop := ∀ (args : Array Value) (w : World), (callFunc f args).run P w = .ok (.enter f args) w

/-- CLOSED DATA IN, CLOSED DATA OUT. -/
def CSpec (P : Program) (f : Nat) (args : List D) (r : D) : Prop :=
  Callable P f ∧ ∀ (S0 : Nat → Prop) (w : World) (cs : List Value), (∀ B, S0 B → B < w.heap.size) → args.length = cs.length →
    (∀ (i : Nat) (d : D) (c : Value), args[i]? = some d → cs[i]? = some c → RD S0 w d c) →
    Calls P f cs.toArray w fun e w' => ∃ c S', e = .returned c ∧ RD S' w' r c ∧ (∀ B, S' B → (S0 B ∨ w.heap.size ≤ B) ∧ B < w'.heap.size) ∧ Kp ⟨w.heap.size, fun _ => False, S0⟩ w w'

/-- ON A HEAP. -/
def RSpec (P : Program) (f : Nat) (vs : List V) (H : Heap) (r : V) (H' : Heap) : Prop :=
  Callable P f ∧ ∀ (C : Ctx) (φ : Nat → Option Loc) (S : Nat → Prop) (w : World) (cs : List Value), HRel C φ S H w → RVs φ S H w vs cs →
    Calls P f cs.toArray w fun e w' => ∃ c φ' S', e = .returned c ∧ RV φ' S' H' w' r c ∧ HRel C φ' S' H' w' ∧ Step φ S H w φ' S' H' w' ∧ Kp C w w'

section
variable {P : Program} {E : Env} {C : Ctx} {φ φ' : Nat → Option Loc} {S S' : Nat → Prop} {H H' : Heap} {w w' : World} {T : Tmps} {a : Act}

mutual
/-- The ids that it leads to. -/
def tids (H : Heap) : Nat → V → List Nat
  | 0, _ => []
  | n + 1, v => match v with
    | .ptr id _ _ => match hget H id with
      | .box _ cells => id :: tidss H n cells
      | _ => [id]
    | .own id _ _ => [id]
    | .agg vs | .tuple vs | .func _ vs => tidss H n vs
    | _ => []
def tidss (H : Heap) : Nat → List V → List Nat
  | 0, _ => []
  | _ + 1, [] => []
  | n + 1, v :: r => tids H n v ++ tidss H n r
end

mutual
theorem xport_rel {S1 : Nat → Prop} (hH : HRel C φ S H w) (hS : ∀ B, S B → S1 B) : ∀ (n : Nat) (v : V) (c : Value) (x : D), (∀ id ∈ tids H n v, ∀ L, φ id = some L → S1 L.blk) → RV φ S H w v c → xport H n v = some x → RD S1 w x c
  | 0, v, c, x, _, _, h => by simp [xport] at h
  | n + 1, v, c, x, ht, hv, h => by
    have hkeep : KeepS S w S1 w := fun B hB _ => ⟨hS B hB, rfl⟩
    cases v with
    | d y => simp [xport] at h; subst h; cases hv with | d _ _ h => exact h.keep hkeep
    | nils => simp [xport] at h; subst h; exact (RV.clo_rel (x := .vec []) hv rfl).keep hkeep
    | ptr id i j =>
      simp only [xport] at h
      split at h
      · rename_i fz cells hg
        split at h
        · rename_i hi
          subst hi
          split at h
          · rename_i ds hds
            simp at h; subst h
            obtain ⟨L, hL, rfl, _⟩ := hv.ptr_inv (sz := cells.length) (by rw [hg]; rfl)
            have hb := hH.blk id
            rw [hg] at hb
            obtain ⟨L', cs, t, h1, h2, h3, h4, h5, h6⟩ := hb
            rw [hL] at h1; cases h1
            have hS1 : S1 L.blk := ht id (by simp [tids, hg]) L hL
            obtain ⟨q1, q2⟩ := xports_rel hH hS n cells cs.toList ds (fun id' hid' => ht id' (by simp [tids, hg, hid'])) ⟨by simpa using h4, fun k v c hk hc => h5 k v c hk (by simpa using hc)⟩ hds
            have hget : ∀ (k : Nat) (y : D), (D.agg ds).cells[k]? = some y → ∃ c, cs[k]? = some c ∧ RD S1 w y c := fun k y hy => by
              have hk : k < cs.size := by have := (List.getElem?_eq_some_iff.1 hy).1; simp [D.cells] at this; rw [q1] at this; simpa using this
              exact ⟨cs[k], by simp [hk], q2 k y cs[k] hy (by simp [hk])⟩
            have := RD.imm (S := S1) (w := w) (.agg ds) j L.blk 0 (fun k => cs.getD k undef) (fun k y hy => by
              obtain ⟨c, hc, _⟩ := hget k y hy
              exact ⟨hS1, by rw [cell_of_row w L.blk _ cs t (0, 0) h3.heap]; simp [hc]⟩) (fun k y hy => by
              obtain ⟨c, hc, hr⟩ := hget k y hy
              simpa [hc] using hr)
            simpa [h2] using this
          · cases h
        · cases h
      · rename_i fz sz els hg
        split at h
        · rename_i e he
          simp at h; subst h
          obtain ⟨L, hL, rfl, _⟩ := hv.ptr_inv (sz := sz) (by rw [hg]; rfl)
          have hb := hH.blk id
          rw [hg] at hb
          rcases hb with ⟨hn, _⟩ | ⟨L', cs, t, h1, h2, h3, h4, h5, h6⟩
          · subst hn; simp at he
          rw [hL] at h1; cases h1
          have hS1 : S1 L.blk := ht id (by simp [tids, hg]) L hL
          exact RD.imm e j L.blk (L.off + i * sz) (fun k => cs.getD (L.off + (i * sz + k)) undef) (fun k y hy => by
            obtain ⟨c, hc, _⟩ := h5 i e k y he hy
            exact ⟨hS1, by rw [cell_of_row w L.blk _ cs t (0, 0) h2.heap, Nat.add_assoc]; simp [hc]⟩) (fun k y hy => by
            obtain ⟨c, hc, hr⟩ := h5 i e k y he hy
            simpa [hc] using hr.keep hkeep)
        · cases h
      · cases h
    | own id off len =>
      simp only [xport] at h
      split at h
      · rename_i fz sz els hg
        simp at h; subst h
        have hel' : elems H (.own id off len) = some ((els.drop off).take len) := by simp [elems, hg]
        obtain ⟨A, cap, rfl, szz, vals, k1, k2, k3, k4⟩ := elems_rel hH hv hel'
        cases hv with | own _ _ _ l _ _ hub hh =>
          obtain ⟨r1, r0, r2, r3⟩ := hh fz sz els hg
          have hb := hH.blk id
          rw [hg] at hb
          by_cases hne : (els.drop off).take len = []
          · rw [hne]
            exact .vec [] A cap 0 0 0 (fun _ => undef) (Nat.zero_le _) (fun h => absurd rfl h) (fun e he => by simp at he) (fun i e k x he => by simp at he) (fun i e k x he => by simp at he)
          · obtain ⟨B, o, hA, hcells⟩ := k3 hne
            have hSB : S1 B := by
              rcases r3 with r3 | ⟨L, hL, hA', _⟩
              · exfalso; apply hne; apply List.eq_nil_of_length_eq_zero; omega
              · rw [hA] at hA'; simp at hA'; rw [hA'.1]; exact ht id (by simp [tids]) L hL
            refine .vec _ A cap B o szz (fun k => vals.getD k undef) (by omega) (fun _ => hA) k1 (fun i e k x he hx => ?_) (fun i e k x he hx => ?_)
            · obtain ⟨y, hy, _⟩ := k4 i e k x he hx
              exact ⟨hSB, by rw [hcells _ y hy]; simp [hy]⟩
            · obtain ⟨y, hy, hr⟩ := k4 i e k x he hx
              simpa [hy] using hr.keep hkeep
      · cases h
    | agg vs =>
      simp only [xport] at h
      split at h
      · rename_i ds hds
        simp at h; subst h
        cases hv with | agg _ cs hl hh =>
          obtain ⟨q1, q2⟩ := xports_rel hH hS n vs cs ds (fun id hid => ht id (by simpa [tids] using hid)) ⟨hl, hh⟩ hds
          exact .agg ds cs q1 q2
      · cases h
    | tuple vs =>
      simp only [xport] at h
      split at h
      · rename_i ds hds
        simp at h; subst h
        cases hv with | tuple _ cs hl hh =>
          obtain ⟨q1, q2⟩ := xports_rel hH hS n vs cs ds (fun id hid => ht id (by simpa [tids] using hid)) ⟨hl, hh⟩ hds
          exact .tuple ds cs q1 q2
      · cases h
    | func f vs =>
      simp only [xport] at h
      split at h
      · rename_i ds hds
        simp at h; subst h
        cases hv with | func _ _ cs hl hh =>
          obtain ⟨q1, q2⟩ := xports_rel hH hS n vs cs ds (fun id hid => ht id (by simpa [tids] using hid)) ⟨hl, hh⟩ hds
          exact .func f ds cs q1 q2
      · cases h
theorem xports_rel {S1 : Nat → Prop} (hH : HRel C φ S H w) (hS : ∀ B, S B → S1 B) : ∀ (n : Nat) (vs : List V) (cs : List Value) (ds : List D), (∀ id ∈ tidss H n vs, ∀ L, φ id = some L → S1 L.blk) → RVs φ S H w vs cs → xports H n vs = some ds →
    ds.length = cs.length ∧ ∀ (i : Nat) (d : D) (c : Value), ds[i]? = some d → cs[i]? = some c → RD S1 w d c
  | 0, vs, cs, ds, _, _, h => by simp [xports] at h
  | n + 1, [], cs, ds, _, hv, h => by
    simp [xports] at h; subst h
    exact ⟨hv.len, fun i d c hd => by simp at hd⟩
  | n + 1, v :: r, cs, ds, ht, hv, h => by
    simp only [xports] at h
    split at h
    · rename_i x xs hx hxs
      simp at h; subst h
      cases cs with
      | nil => have := hv.len; simp at this
      | cons c cs =>
        have h0 := hv.at_ 0 v c rfl rfl
        have hr : RVs φ S H w r cs := ⟨by simpa using hv.len, fun i v c hi hc => hv.at_ (i + 1) v c (by simpa using hi) (by simpa using hc)⟩
        obtain ⟨q1, q2⟩ := xports_rel hH hS n r cs xs (fun id hid => ht id (by simp [tidss, hid])) hr hxs
        have q0 := xport_rel hH hS n v c x (fun id hid => ht id (by simp [tidss, hid])) h0 hx
        refine ⟨by simp [q1], fun i d c' hd hc => ?_⟩
        cases i with
        | zero => simp at hd hc; subst hd; subst hc; exact q0
        | succ i => exact q2 i d c' (by simpa using hd) (by simpa using hc)
    · cases h
end

theorem RD.of_scalar {S1 : Nat → Prop} {x : D} {c : Value} {w1 : World} (h : RD S w x c) (hs : x.scalar = true) : RD S1 w1 x c := by
  cases h <;> first | (simp [D.scalar] at hs; done) | constructor

theorem RD.of_flat {S1 : Nat → Prop} {x : D} {c : Value} {w1 : World} (h : RD S w x c) (hs : x.flat = true) : RD S1 w1 x c := by
  cases h with
  | agg ds cs hl hh => exact .agg ds cs hl fun i d c hd hc => (hh i d c hd hc).of_scalar (List.all_eq_true.1 hs d (List.mem_of_getElem? hd))
  | tuple ds cs hl hh => exact .tuple ds cs hl fun i d c hd hc => (hh i d c hd hc).of_scalar (List.all_eq_true.1 hs d (List.mem_of_getElem? hd))
  | bool b => exact .bool b
  | int k n => exact .int k n
  | nilp => exact .nilp
  | nilf => exact .nilf
  | undef c => exact .undef c
  | func => simp [D.flat, D.scalar] at hs
  | vec => simp [D.flat, D.scalar] at hs
  | imm => simp [D.flat, D.scalar] at hs

/-- A call by value whose result has no address in it: the heap stays. -/
theorem CSpec.flat {f : Nat} {vs : List V} {ds : List D} {r : D} (n : Nat) (hx : xports H n vs = some ds) (h : CSpec P f ds r) (hr : r.flat = true) : RSpec P f vs H (.d r) H := by
  refine ⟨h.1, ?_⟩
  intro C φ S w cs hH hv
  obtain ⟨q1, q2⟩ := xports_rel (S1 := fun B => B < w.heap.size) hH hH.low n vs cs ds (fun id _ L hL => hH.lt hL) hv hx
  refine (h.2 (fun B => B < w.heap.size) w cs (fun _ h => h) q1 q2).mono ?_
  rintro e w' ⟨c, S', rfl, h1, h2, h3⟩
  have hsame : ∀ B, B < w.heap.size → w'.heap[B]? = w.heap[B]? := fun B hB => h3.block B hB (fun h => h)
  have hst : Step φ S H w φ S H w' := ⟨fun B hB hlt => ⟨hB, hsame B hlt⟩, (Step.refl (φ := φ) (S := S) (H := H) (w := w)).keepH⟩
  refine ⟨c, φ, S, rfl, .d _ _ (h1.of_flat hr), ⟨Nat.le_trans hH.n0 h3.size, hH.own, hH.vis, hH.inj, fun id => (hH.blk id).keep hst rfl (fun L hL => ⟨hsame _ (hH.lt hL), Iff.rfl⟩), fun B hB => Nat.lt_of_lt_of_le (hH.low B hB) h3.size⟩, hst,
    ⟨h3.os, h3.tape, h3.output, h3.size, fun B hB _ => hsame B (Nat.lt_of_lt_of_le hB hH.n0)⟩⟩

def Blk.ice : Blk → Blk
  | .box _ cells => .box true cells
  | .dat _ sz els => .dat true sz els
  | b => b

/-- No longer written. -/
def freeze (H : Heap) : List Nat → Heap
  | [] => H
  | id :: r => freeze (hput H id (hget H id).ice) r

theorem HRel.freeze1 (hH : HRel C φ S H w) (id : Nat) (hne : hget H id ≠ .unborn) : ∃ S1, HRel C φ S1 (hput H id (hget H id).ice) w ∧ Step φ S H w φ S1 (hput H id (hget H id).ice) w ∧ ∀ L, φ id = some L → S1 L.blk := by
  refine ⟨fun B => S B ∨ ∃ L, φ id = some L ∧ L.blk = B, ?_⟩
  have hst : Step φ S H w φ (fun B => S B ∨ ∃ L, φ id = some L ∧ L.blk = B) (hput H id (hget H id).ice) w := ⟨fun B hB _ => ⟨.inl hB, rfl⟩, fun i hi => by
    rw [hget_hput]
    by_cases e : i = id
    · subst e
      rw [if_pos rfl]
      cases hb : hget H i <;> simp [Blk.ice, SameShape]
      exact hi hb
    · rw [if_neg e]
      by_cases hd : hget H i = .dead
      · exact .inl hd
      · exact .inr ⟨.refl hi hd, rfl⟩⟩
  refine ⟨⟨hH.n0, hH.own, ?_, hH.inj, ?_, ?_⟩, hst, fun L hL => .inr ⟨L, hL, rfl⟩⟩
  · rintro B (hB | ⟨L, hL, rfl⟩)
    · exact hH.vis B hB
    · rcases hH.own id L hL with h | h
      · exact .inr (.inl h)
      · exact .inr (.inr h)
  · intro i
    rw [hget_hput]
    by_cases e : i = id
    · subst e
      rw [if_pos rfl]
      have hb := hH.blk i
      cases hg : hget H i with
      | unborn => exact absurd hg hne
      | dead => rw [hg] at hb; exact hb
      | box fz cells =>
        rw [hg] at hb
        obtain ⟨L, cs, t, h1, h2, h3, h4, h5, h6⟩ := hb
        rw [hg] at hst
        exact ⟨L, cs, t, h1, h2, h3, h4, fun k v c hk hc => (h5 k v c hk hc).step hst, by simp [h1]⟩
      | dat fz sz els =>
        rw [hg] at hb
        rw [hg] at hst
        rcases hb with h | ⟨L, cs, t, h1, h2, h3, h4, h5, h6⟩
        · exact .inl h
        · exact .inr ⟨L, cs, t, h1, h2, h3, h4, fun i e k x he hx => by
            obtain ⟨c, hc, hr⟩ := h5 i e k x he hx
            exact ⟨c, hc, hr.keep hst.keepS⟩, by simp [h1]⟩
    · rw [if_neg e]
      refine (hH.blk i).keep hst rfl (fun L hL => ⟨rfl, ⟨fun h => ?_, .inl⟩⟩)
      rcases h with h | ⟨L', hL', he⟩
      · exact h
      · exact absurd (hH.inj i id L L' hL hL' he.symm) e
  · rintro B (hB | ⟨L, hL, rfl⟩)
    · exact hH.low B hB
    · exact hH.lt hL

end
end Go.Proofs.Ythpapgbpmkgfeaa.AM
