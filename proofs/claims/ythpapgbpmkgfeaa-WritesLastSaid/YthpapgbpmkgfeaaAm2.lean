/- How the machine's values lie in a world of the model; what a step keeps. -/
import Derived.Test.YthpapgbpmkgfeaaAm1
set_option linter.all false
namespace Go.Proofs.Ythpapgbpmkgfeaa.AM
open Go

/-- Where a block lies: the model's block, from which cell on, how many cells the block has. -/
structure Loc where
  blk : Nat
  off : Nat
  n : Nat

/-- Closed data in a world; S: the blocks that it may lie in, which are not written any more. -/
inductive RD (S : Nat → Prop) (w : World) : D → Value → Prop
  | bool (b : Bool) : RD S w (.bool b) (.bool b)
  | int (k : IntKind) (n : Int) : RD S w (.int k n) (.int k n)
  | nilp : RD S w .nilp (.pointer none)
  | nilf : RD S w .nilf .nilFunc
  | undef (c : Value) : RD S w .undef c
  | agg (ds : List D) (cs : List Value) : ds.length = cs.length → (∀ (i : Nat) (d : D) (c : Value), ds[i]? = some d → cs[i]? = some c → RD S w d c) → RD S w (.agg ds) (.agg cs.toArray)
  | tuple (ds : List D) (cs : List Value) : ds.length = cs.length → (∀ (i : Nat) (d : D) (c : Value), ds[i]? = some d → cs[i]? = some c → RD S w d c) → RD S w (.tuple ds) (.tuple cs.toArray)
  | func (f : Nat × Nat) (ds : List D) (cs : List Value) : ds.length = cs.length → (∀ (i : Nat) (d : D) (c : Value), ds[i]? = some d → cs[i]? = some c → RD S w d c) → RD S w (.func f ds) (.func (.func f.1) (cs.take f.2).toArray (cs.drop f.2).toArray)
  | vec (els : List D) (a : Option Addr) (cap B o sz : Nat) (m : Nat → Value) : els.length ≤ cap → (els ≠ [] → a = some ⟨B, o, none⟩) → (∀ e ∈ els, e.cells.length = sz) →
      (∀ (i : Nat) (e : D) (k : Nat) (x : D), els[i]? = some e → e.cells[k]? = some x → S B ∧ w.cell? ⟨B, o + (i * sz + k), none⟩ = some (m (i * sz + k))) →
      (∀ (i : Nat) (e : D) (k : Nat) (x : D), els[i]? = some e → e.cells[k]? = some x → RD S w x (m (i * sz + k))) → RD S w (.vec els) (.slice a els.length cap)
  | imm (e : D) (j B o : Nat) (m : Nat → Value) : (∀ (k : Nat) (x : D), e.cells[k]? = some x → S B ∧ w.cell? ⟨B, o + k, none⟩ = some (m k)) →
      (∀ (k : Nat) (x : D), e.cells[k]? = some x → RD S w x (m k)) → RD S w (.imm e j) (.pointer (some ⟨B, o + j, none⟩))

/-- The frozen blocks stay. -/
def KeepS (S : Nat → Prop) (w : World) (S' : Nat → Prop) (w' : World) : Prop := ∀ B, S B → B < w.heap.size → S' B ∧ w'.heap[B]? = w.heap[B]?

theorem KeepS.refl (S : Nat → Prop) (w : World) : KeepS S w S w := fun _ h _ => ⟨h, rfl⟩

theorem KeepS.cell {S S' : Nat → Prop} {w w' : World} (h : KeepS S w S' w') {B i : Nat} {v : Value} (hs : S B) (hc : w.cell? ⟨B, i, none⟩ = some v) : S' B ∧ w'.cell? ⟨B, i, none⟩ = some v := by
  have hlt := World.block_lt_of_cell? w _ hc
  obtain ⟨h1, h2⟩ := h B hs hlt
  exact ⟨h1, (World.cell?_of_block (w := w) (w' := w') (a := ⟨B, i, none⟩) h2).trans hc⟩

theorem RD.keep {S S' : Nat → Prop} {w w' : World} (hk : KeepS S w S' w') {x : D} {c : Value} (h : RD S w x c) : RD S' w' x c := by
  induction h with
  | bool b => exact .bool b
  | int k n => exact .int k n
  | nilp => exact .nilp
  | nilf => exact .nilf
  | undef c => exact .undef c
  | agg ds cs hl _ ih => exact .agg ds cs hl ih
  | tuple ds cs hl _ ih => exact .tuple ds cs hl ih
  | func f ds cs hl _ ih => exact .func f ds cs hl ih
  | vec els a cap B o sz m h1 h2 h3 h4 _ ih => exact .vec els a cap B o sz m h1 h2 h3 (fun i e k x he hx => hk.cell (h4 i e k x he hx).1 (h4 i e k x he hx).2) ih
  | imm e j B o m h1 _ ih => exact .imm e j B o m (fun k x hx => hk.cell (h1 k x hx).1 (h1 k x hx).2) ih

inductive RV (φ : Nat → Option Loc) (S : Nat → Prop) (H : Heap) (w : World) : V → Value → Prop
  | d (x : D) (c : Value) : RD S w x c → RV φ S H w (.d x) c
  | nils : RV φ S H w .nils (.slice none 0 0)
  | ptr (id i j : Nat) (A : Option Addr) : hget H id ≠ .unborn → (∀ sz, (hget H id).width = some sz → ∃ L, φ id = some L ∧ A = some ⟨L.blk, L.off + i * sz + j, none⟩) → RV φ S H w (.ptr id i j) (.pointer A)
  | own (id off len l cap : Nat) (A : Option Addr) : hget H id ≠ .unborn → (∀ fz sz els, hget H id = .dat fz sz els → off + len ≤ els.length ∧ l = len ∧ len ≤ cap ∧
      (cap = 0 ∨ ∃ L, φ id = some L ∧ A = some ⟨L.blk, L.off + off * sz, none⟩ ∧ L.off + (off + cap) * sz ≤ L.n)) → RV φ S H w (.own id off len) (.slice A l cap)
  | agg (vs : List V) (cs : List Value) : vs.length = cs.length → (∀ (i : Nat) (v : V) (c : Value), vs[i]? = some v → cs[i]? = some c → RV φ S H w v c) → RV φ S H w (.agg vs) (.agg cs.toArray)
  | tuple (vs : List V) (cs : List Value) : vs.length = cs.length → (∀ (i : Nat) (v : V) (c : Value), vs[i]? = some v → cs[i]? = some c → RV φ S H w v c) → RV φ S H w (.tuple vs) (.tuple cs.toArray)
  | func (f : Nat × Nat) (vs : List V) (cs : List Value) : vs.length = cs.length → (∀ (i : Nat) (v : V) (c : Value), vs[i]? = some v → cs[i]? = some c → RV φ S H w v c) → RV φ S H w (.func f vs) (.func (.func f.1) (cs.take f.2).toArray (cs.drop f.2).toArray)

/-- A block is what it was, or dead. -/
def SameShape : Blk → Blk → Prop
  | .box _ a, .box _ b => a.length = b.length
  | .dat _ s a, .dat _ t b => s = t ∧ a.length ≤ b.length
  | _, _ => False

structure Step (φ : Nat → Option Loc) (S : Nat → Prop) (H : Heap) (w : World) (φ' : Nat → Option Loc) (S' : Nat → Prop) (H' : Heap) (w' : World) : Prop where
  keepS : KeepS S w S' w'
  keepH : ∀ id, hget H id ≠ .unborn → hget H' id = .dead ∨ (SameShape (hget H id) (hget H' id) ∧ φ' id = φ id)

theorem SameShape.refl {b : Blk} (h : b ≠ .unborn) (hd : b ≠ .dead) : SameShape b b := by
  cases b <;> simp_all [SameShape]

theorem Step.refl {φ : Nat → Option Loc} {S : Nat → Prop} {H : Heap} {w : World} : Step φ S H w φ S H w :=
  ⟨.refl _ _, fun id h => by
    by_cases hd : hget H id = .dead
    · exact .inl hd
    · exact .inr ⟨.refl h hd, rfl⟩⟩

section
variable {φ φ' : Nat → Option Loc} {S S' : Nat → Prop} {H H' : Heap} {w w' : World}

theorem RV.step (hs : Step φ S H w φ' S' H' w') {v : V} {c : Value} (h : RV φ S H w v c) : RV φ' S' H' w' v c := by
  induction h with
  | d x c hx => exact .d x c (hx.keep hs.keepS)
  | nils => exact .nils
  | ptr id i j A hu h =>
    rcases hs.keepH id hu with hd | ⟨hsh, hφ⟩
    · exact .ptr id i j A (by rw [hd]; simp) (fun sz hw => by rw [hd] at hw; simp [Blk.width] at hw)
    · refine .ptr id i j A (fun e => by rw [e] at hsh; cases hb : hget H id <;> simp [hb, SameShape] at hsh) (fun sz hw => ?_)
      have : (hget H id).width = some sz := by
        cases hb : hget H id <;> cases hb' : hget H' id <;> simp [hb, hb', SameShape] at hsh <;> simp [hb', Blk.width] at hw <;> simp [Blk.width] <;> omega
      rw [hφ]
      exact h sz this
  | own id off len l cap A hu h =>
    rcases hs.keepH id hu with hd | ⟨hsh, hφ⟩
    · exact .own id off len l cap A (by rw [hd]; simp) (fun fz sz els hw => by rw [hd] at hw; cases hw)
    · refine .own id off len l cap A (fun e => by rw [e] at hsh; cases hb : hget H id <;> simp [hb, SameShape] at hsh) (fun fz sz els hw => ?_)
      rw [hw] at hsh
      cases hb : hget H id <;> simp [hb, SameShape] at hsh
      rename_i fz0 sz0 els0
      obtain ⟨rfl, hle⟩ := hsh
      obtain ⟨h1, h2⟩ := h fz0 sz0 els0 hb
      rw [hφ]
      exact ⟨by omega, h2⟩
  | agg vs cs hl _ ih => exact .agg vs cs hl ih
  | tuple vs cs hl _ ih => exact .tuple vs cs hl ih
  | func f vs cs hl _ ih => exact .func f vs cs hl ih
end

/-- A cell of a block in the model's heap, not frozen. -/
structure At (w : World) (L : Loc) (cs : Array Value) (t : TypeId) : Prop where
  heap : w.heap[L.blk]? = some (.cells cs t (0, 0))
  size : L.n = cs.size

def BR (φ : Nat → Option Loc) (S : Nat → Prop) (H : Heap) (w : World) (id : Nat) : Blk → Prop
  | .unborn => φ id = none
  | .dead => φ id = none
  | .box fz cells => ∃ L cs t, φ id = some L ∧ L.off = 0 ∧ At w L cs t ∧ cells.length = cs.size ∧ (∀ (k : Nat) (v : V) (c : Value), cells[k]? = some v → cs[k]? = some c → RV φ S H w v c) ∧ (S L.blk ↔ fz = true)
  | .dat fz sz els => (els = [] ∧ φ id = none) ∨ ∃ L cs t, φ id = some L ∧ At w L cs t ∧ (∀ e ∈ els, e.cells.length = sz) ∧ L.off + els.length * sz ≤ cs.size ∧
      (∀ (i : Nat) (e : D) (k : Nat) (x : D), els[i]? = some e → e.cells[k]? = some x → ∃ c, cs[L.off + (i * sz + k)]? = some c ∧ RD S w x c) ∧ (S L.blk ↔ fz = true)

/-- The frame of a call: how many blocks there were, which of these may be written, which may be seen. -/
structure Ctx where
  n0 : Nat
  O : Nat → Prop
  S0 : Nat → Prop

structure HRel (C : Ctx) (φ : Nat → Option Loc) (S : Nat → Prop) (H : Heap) (w : World) : Prop where
  n0 : C.n0 ≤ w.heap.size
  own : ∀ id L, φ id = some L → C.O L.blk ∨ C.n0 ≤ L.blk
  vis : ∀ B, S B → C.S0 B ∨ C.O B ∨ C.n0 ≤ B
  inj : ∀ id id' L L', φ id = some L → φ id' = some L' → L.blk = L'.blk → id = id'
  blk : ∀ id, BR φ S H w id (hget H id)
  low : ∀ B, S B → B < w.heap.size

/-- What was there ahead of the call, and may not be written, is as it was. -/
structure Kp (C : Ctx) (w w' : World) : Prop where
  os : w'.os = w.os
  tape : w'.tape = w.tape
  output : w'.output = w.output
  size : w.heap.size ≤ w'.heap.size
  block : ∀ B, B < C.n0 → ¬ C.O B → w'.heap[B]? = w.heap[B]?

theorem Kp.refl {C : Ctx} {w : World} : Kp C w w := ⟨rfl, rfl, rfl, Nat.le_refl _, fun _ _ _ => rfl⟩
theorem Kp.trans {C : Ctx} {w w' w'' : World} (h : Kp C w w') (h' : Kp C w' w'') : Kp C w w'' :=
  ⟨h'.os.trans h.os, h'.tape.trans h.tape, h'.output.trans h.output, Nat.le_trans h.size h'.size, fun B hb ho => (h'.block B hb ho).trans (h.block B hb ho)⟩

end Go.Proofs.Ythpapgbpmkgfeaa.AM
