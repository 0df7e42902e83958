/- The code's meaning in the machine, and that it is the model's. -/
import Derived.Test.YthpapgbpmkgfeaaAm12
set_option linter.all false
namespace Go.Proofs.Ythpapgbpmkgfeaa.AM
open Go Go.RowKit

section
variable {P : Program} {E : Env} {C : Ctx} {φ φ' : Nat → Option Loc} {S S' : Nat → Prop} {H H' : Heap} {w w' : World} {T : Tmps} {a : Act}

theorem KeepS.trans {S'' : Nat → Prop} {w'' : World} (h : KeepS S w S' w') (h' : KeepS S' w' S'' w'') (hsz : w.heap.size ≤ w'.heap.size) : KeepS S w S'' w'' := fun B hB hlt => by
  obtain ⟨h1, h2⟩ := h B hB hlt
  obtain ⟨h3, h4⟩ := h' B h1 (Nat.lt_of_lt_of_le hlt hsz)
  exact ⟨h3, h4.trans h2⟩

theorem SameShape.trans {a b c : Blk} (h : SameShape a b) (h' : SameShape b c) : SameShape a c := by
  cases a <;> cases b <;> cases c <;> simp [SameShape] at h h' ⊢ <;> omega

theorem SameShape.alive {a b : Blk} (h : SameShape a b) : b ≠ .unborn := by
  cases a <;> cases b <;> simp [SameShape] at h ⊢

/-- What is kept of the blocks below m. -/
structure StepM (m : Nat) (φ : Nat → Option Loc) (S : Nat → Prop) (H : Heap) (w : World) (φ' : Nat → Option Loc) (S' : Nat → Prop) (H' : Heap) (w' : World) : Prop where
  keepS : KeepS S w S' w'
  size : w.heap.size ≤ w'.heap.size
  keepH : ∀ id, id < m → hget H id ≠ .unborn → hget H' id = .dead ∨ (SameShape (hget H id) (hget H' id) ∧ φ' id = φ id)

theorem StepM.refl {m : Nat} : StepM m φ S H w φ S H w := ⟨.refl _ _, Nat.le_refl _, fun id _ h => (Step.refl (φ := φ) (S := S) (H := H) (w := w)).keepH id h⟩

theorem Step.toM {m : Nat} (h : Step φ S H w φ' S' H' w') (hsz : w.heap.size ≤ w'.heap.size) : StepM m φ S H w φ' S' H' w' := ⟨h.keepS, hsz, fun id _ hu => h.keepH id hu⟩

theorem StepM.trans {m : Nat} {φ'' : Nat → Option Loc} {S'' : Nat → Prop} {H'' : Heap} {w'' : World} (h : StepM m φ S H w φ' S' H' w') (h' : StepM m φ' S' H' w' φ'' S'' H'' w'') : StepM m φ S H w φ'' S'' H'' w'' := by
  refine ⟨h.keepS.trans h'.keepS h.size, Nat.le_trans h.size h'.size, fun id hm hu => ?_⟩
  rcases h.keepH id hm hu with hd | ⟨hs, hφ⟩
  · rcases h'.keepH id hm (by rw [hd]; simp) with hd' | ⟨hs', _⟩
    · exact .inl hd'
    · rw [hd] at hs'; simp [SameShape] at hs'
  · rcases h'.keepH id hm hs.alive with hd' | ⟨hs', hφ'⟩
    · exact .inl hd'
    · exact .inr ⟨hs.trans hs', hφ'.trans hφ⟩

theorem Step.trans {φ'' : Nat → Option Loc} {S'' : Nat → Prop} {H'' : Heap} {w'' : World} (h : Step φ S H w φ' S' H' w') (h' : Step φ' S' H' w' φ'' S'' H'' w'') (hsz : w.heap.size ≤ w'.heap.size) (hsz' : w'.heap.size ≤ w''.heap.size) : Step φ S H w φ'' S'' H'' w'' := by
  refine ⟨h.keepS.trans h'.keepS hsz, fun id hu => ?_⟩
  have := ((h.toM (m := id + 1) hsz).trans (h'.toM hsz')).keepH id (Nat.lt_succ_self _) hu
  exact this

theorem HRel.freeze (hH : HRel C φ S H w) : ∀ (ids : List Nat) {H : Heap} {S : Nat → Prop}, HRel C φ S H w → ∃ S1, HRel C φ S1 (freeze H ids) w ∧ Step φ S H w φ S1 (freeze H ids) w ∧ ∀ id ∈ ids, ∀ L, φ id = some L → S1 L.blk
  | [], H, S, hH => ⟨S, hH, .refl, fun id h => by simp at h⟩
  | id :: r, H, S, hH' => by
    by_cases hu : hget H id = .unborn
    · -- nothing is there
      have hφ : φ id = none := by have := hH'.blk id; rw [hu] at this; exact this
      have hsame : ∀ i, hget (hput H id (hget H id).ice) i = hget H i := fun i => by
        rw [hget_hput]; split
        · rename_i e; rw [e, hu]; rfl
        · rfl
      have hst : Step φ S H w φ S (hput H id (hget H id).ice) w := ⟨.refl _ _, fun i hi => by
        rw [hsame]; exact (Step.refl (φ := φ) (S := S) (H := H) (w := w)).keepH i hi⟩
      have hH1 : HRel C φ S (hput H id (hget H id).ice) w := ⟨hH'.n0, hH'.own, hH'.vis, hH'.inj, fun i => by rw [hsame]; exact (hH'.blk i).keep hst rfl (fun _ _ => ⟨rfl, Iff.rfl⟩), hH'.low⟩
      obtain ⟨S1, q1, q2, q3⟩ := HRel.freeze hH r hH1
      refine ⟨S1, q1, hst.trans q2 (Nat.le_refl _) (Nat.le_refl _), fun i hi L hL => ?_⟩
      rcases List.mem_cons.1 hi with rfl | hi
      · rw [hφ] at hL; cases hL
      · exact q3 i hi L hL
    · obtain ⟨S0, p1, p2, p3⟩ := hH'.freeze1 id hu
      obtain ⟨S1, q1, q2, q3⟩ := HRel.freeze hH r p1
      refine ⟨S1, q1, p2.trans q2 (Nat.le_refl _) (Nat.le_refl _), fun i hi L hL => ?_⟩
      rcases List.mem_cons.1 hi with rfl | hi
      · exact (q2.keepS L.blk (p3 L hL) (hH'.lt hL)).1
      · exact q3 i hi L hL

/-- A call by value: what was handed over is written no more. -/
theorem CSpec.ice {f : Nat} {vs : List V} {ds : List D} {r : D} (n : Nat) (hx : xports H n vs = some ds) (h : CSpec P f ds r) : RSpec P f vs H (.d r) (freeze H (tidss H n vs)) := by
  refine ⟨h.1, ?_⟩
  intro C φ S w cs hH hv
  obtain ⟨S1, p1, p2, p3⟩ := HRel.freeze hH (tidss H n vs) hH
  obtain ⟨q1, q2⟩ := xports_rel (S1 := S1) hH (fun B hB => (p2.keepS B hB (hH.low B hB)).1) n vs cs ds p3 hv hx
  refine (h.2 S1 w cs p1.low q1 q2).mono ?_
  rintro e w' ⟨c, S', rfl, h1, h2, h3⟩
  have hsame : ∀ B, B < w.heap.size → w'.heap[B]? = w.heap[B]? := fun B hB => h3.block B hB (fun h => h)
  have hst : Step φ S1 (AM.freeze H (tidss H n vs)) w φ (fun B => S1 B ∨ S' B) (AM.freeze H (tidss H n vs)) w' :=
    ⟨fun B hB hlt => ⟨.inl hB, hsame B hlt⟩, (Step.refl (φ := φ) (S := S) (H := AM.freeze H (tidss H n vs)) (w := w)).keepH⟩
  refine ⟨c, φ, fun B => S1 B ∨ S' B, rfl, .d _ _ (h1.keep (fun B hB _ => ⟨.inr hB, rfl⟩)), ⟨Nat.le_trans hH.n0 h3.size, hH.own, ?_, hH.inj, fun id => (p1.blk id).keep hst rfl (fun L hL => ⟨hsame _ (hH.lt hL), ⟨fun hh => ?_, .inl⟩⟩), ?_⟩,
    p2.trans hst (Nat.le_refl _) h3.size, ⟨h3.os, h3.tape, h3.output, h3.size, fun B hB _ => hsame B (Nat.lt_of_lt_of_le hB hH.n0)⟩⟩
  · rintro B (hB | hB)
    · exact p1.vis B hB
    · rcases (h2 B hB).1 with h | h
      · exact p1.vis B h
      · exact .inr (.inr (Nat.le_trans hH.n0 h))
  · rcases hh with hh | hh
    · exact hh
    · rcases (h2 _ hh).1 with h | h
      · exact h
      · have := hH.lt hL; omega
  · rintro B (hB | hB)
    · exact Nat.lt_of_lt_of_le (p1.low B hB) h3.size
    · exact (h2 B hB).2

end

/-! ### the code -/

inductive Ex where
  | normal
  | exit (id : Nat)
  | ret

def Ex.of : Ex → Exit
  | .normal => .normal
  | .exit id => .exit id
  | .ret => .ret

/-- The function that is called, and what it is called with (the bound ones ahead, the captured ones behind). -/
def withArgs (k : Nat) (vs as : List V) : List V := vs.take k ++ (as ++ vs.drop k)

def calleeOf (T : Tmps) (fo : Operand) : Option (Nat × (List V → List V)) :=
  match ev T fo with
  | .func f cap => some (f.1, withArgs f.2 cap)
  | .d (.func f cap) => some (f.1, withArgs f.2 (cap.map V.d))
  | _ => none

/-- A slice tested for nil: when it may be so, when it may not. -/
def nilTest (E : Env) (T : Tmps) : Op → Option (Bool × Prop × Prop)
  | .binOp .eql t x (.const (.slice none 0 0)) _ => match sliceOf E t, ev T x with
    | some _, .nils => some (true, True, False)
    | some _, .d (.vec els) => some (true, els = [], True)
    | _, _ => none
  | .binOp .neq t x (.const (.slice none 0 0)) _ => match sliceOf E t, ev T x with
    | some _, .nils => some (false, True, False)
    | some _, .d (.vec els) => some (false, els = [], True)
    | _, _ => none
  | _ => none

/-- One operation. -/
def astep (P : Program) (E : Env) (n : Nat) (o : Oper) (T : Tmps) (H : Heap) (K : Tmps → Heap → Prop) : Prop :=
  match o.op with
  | .call { callee := .value fo, args, .. } => match calleeOf T fo with
    | some (f, gg) => ∃ r H', RSpec P f (gg (args.toList.map (ev T))) H r H' ∧ K (tput n T o.dst r) H'
    | none => False
  | op => match nilTest E T op with
    | some (b, pt, pf) => (pt → K (tput n T o.dst (.d (.bool b))) H) ∧ (pf → K (tput n T o.dst (.d (.bool !b))) H)
    | none => match evop E T H H.length op with
      | some (p, v, ch) => p ∧ K (tput n T o.dst v) (ch.on H H.length)
      | none => False

def guardOf (all : List Oper) (j : Nat) : Option Nat :=
  match all[j]? with
  | some o => o.dst
  | none => none

def aops (P : Program) (E : Env) (n : Nat) (all : List Oper) : List Oper → Tmps → Heap → (Tmps → Heap → Prop) → Prop
  | [], T, H, Q => Q T H
  | o :: rest, T, H, Q => match o.guard with
    | none => astep P E n o T H fun T' H' => aops P E n all rest T' H' Q
    | some (j, want) => match guardOf all j with
      | some t => match tget T t with
        | .d (.bool b) => if b = want then astep P E n o ((t, .d (.bool want)) :: T) H (fun T' H' => aops P E n all rest T' H' Q)
          else aops P E n all rest (tput n ((t, .d (.bool !want)) :: T) o.dst (.d (.tuple []))) H Q
        | .d (.tuple []) => aops P E n all rest (tput n T o.dst (.d (.tuple []))) H Q
        | _ => False
      | none => False

/-- Less is known. -/
def Weak (m : Nat) (T : Tmps) (H : Heap) (T' : Tmps) (H' : Heap) : Prop :=
  ∀ (C : Ctx) (φ : Nat → Option Loc) (S : Nat → Prop) (w : World) (a : Act), HRel C φ S H w → TRel φ S H w T a → ∃ φ' S', HRel C φ' S' H' w ∧ TRel φ' S' H' w T' a ∧ StepM m φ S H w φ' S' H' w

def aloop (m : Nat) (F : Tmps → Heap → (Ex → Tmps → Heap → Prop) → Prop) (Q : Ex → Tmps → Heap → Prop) : Nat → Tmps → Heap → Prop
  | 0, _, _ => False
  | k + 1, T, H => F T H fun e T' H' => match e with
    | .normal => ∃ T'' H'', Weak m T' H' T'' H'' ∧ aloop m F Q k T'' H''
    | e => Q e T' H'

/-- In a branch: the test's slot. -/
def told (c : Operand) (b : Bool) (T : Tmps) : Tmps :=
  match c with
  | .tmp t => (t, .d (.bool b)) :: T
  | _ => T

/-- What is told of an operation of a region that draws its order: what comes ahead of it; whether all comes ahead of it or behind (but for those that lag); the slots and the operations that are not to be looked at; whether it may lag. -/
structure PE where
  B : List Nat
  bar : Bool
  ms : List Nat
  mi : List Nat
  lag : Bool := false

def depsOf (o : Oper) : List Nat := (o.after.toList.filter (Region.binds .any)).map (·.on)

def planB (plan : List PE) (i : Nat) : List Nat :=
  match plan[i]? with
  | some e => e.B
  | none => []

def planLag (plan : List PE) (i : Nat) : Bool :=
  match plan[i]? with
  | some e => e.lag
  | none => false

/-- It reads slots alone, and writes a slot alone. -/
def pureOp (o : Oper) : Bool :=
  o.guard.isNone && match o.op with
  | .move _ | .assign _ | .pick .. | .unOp .. | .binOp .. | .extract .. | .convert .. => true
  | _ => false

def dstOk (o ok : Oper) (ms : List Nat) : Bool :=
  match ok.dst with
  | some t => ms.contains t && o.dst != some t
  | none => true

/-- Is a plan one of these operations? -/
def planOk (all : List Oper) (plan : List PE) : Bool :=
  plan.length == all.length &&
  (List.range all.length).all fun i =>
    match all[i]?, plan[i]? with
    | some o, some e =>
      (depsOf o).all (fun d => decide (d < i)) &&
      e.B.all (fun j => (depsOf o).any fun d => d == j || (planB plan d).contains j) &&
      (!e.lag || (pureOp o && !e.bar && (match o.dst with | some t => e.ms.contains t | none => true) &&
        (List.range all.length).all fun k => match all[k]? with
          | some ok => k == i || e.B.contains k || dstOk o ok e.ms
          | none => true)) &&
      (List.range all.length).all fun k =>
        match all[k]? with
        | some ok =>
          (k == i || e.B.contains k || (planB plan k).contains i ||
            (!e.bar && (decide (i < k) || e.mi.contains k) && dstOk o ok e.ms) ||
            (e.bar && decide (k < i) && planLag plan k && dstOk o ok e.ms))
        | none => true
    | _, _ => true

/-- A call whose value, and whose one block, hang on nothing but what is told. -/
def DSpec (P : Program) (f : Nat) (vs : List V) (H : Heap) (nid : Nat) (v : V) (b : Blk) : Prop :=
  ∀ H', (∀ id, hget H id = .unborn ∨ hget H' id = hget H id) → hget H' nid = .unborn → RSpec P f vs H' v (hput H' nid b)

/-- One operation, wherever it comes: a value, and one block more (or none). -/
def dstep (P : Program) (E : Env) (o : Oper) (T : Tmps) (H : Heap) (nid : Nat) (K : V → Blk → Prop) : Prop :=
  match o.op with
  | .call { callee := .value fo, args, .. } => match calleeOf T fo with
    | some (f, gg) => (args.toList.all fun x => !(ev T x).isUndef) = true ∧ ∃ v b, DSpec P f (gg (args.toList.map (ev T))) H nid v b ∧ K v b
    | none => False
  | op => match evop E T H nid op with
    | some (p, v, .no) => p ∧ K v .dead
    | some (p, v, .new b) => p ∧ K v b
    | _ => False

def maskT (ms : List Nat) (T : Tmps) : Tmps := ms.map (fun t => (t, V.d .undef)) ++ T

def maskH (s L0 : Nat) : List Nat → Heap → Heap
  | [], H => H
  | k :: r, H => maskH s L0 r (if s ≤ k then hput H (L0 + (k - s)) .unborn else H)

/-- One operation, all others ahead of it or behind, but for those that lag: their slots are not looked at. -/
def bstep (P : Program) (E : Env) (n : Nat) (o : Oper) (ms : List Nat) (T : Tmps) (H : Heap) (K : Tmps → Heap → Prop) : Prop :=
  match o.op with
  | .call { callee := .value fo, args, .. } => match calleeOf (maskT ms T) fo with
    | some (f, gg) => (args.toList.all fun x => !(ev (maskT ms T) x).isUndef) = true ∧ ∃ r H', RSpec P f (gg (args.toList.map (ev (maskT ms T)))) H r H' ∧ K (tput n T o.dst r) H'
    | none => False
  | op => match evop E (maskT ms T) H H.length op with
    | some (p, v, ch) => p ∧ K (tput n T o.dst v) (ch.on H H.length)
    | none => False

/-- A region that draws its order. -/
def drun (P : Program) (E : Env) (n : Nat) (all : List Oper) (s L0 : Nat) : Nat → List Oper → List PE → Tmps → Heap → (Tmps → Heap → Prop) → Prop
  | _, [], _, T, H, Q => Q T H
  | _, _ :: _, [], _, _, _ => False
  | i, o :: rest, pe :: plan, T, H, Q =>
    if pe.bar = true then o.guard = none ∧ bstep P E n o pe.ms T H fun T' H' => drun P E n all (i + 1) H'.length (i + 1) rest plan T' H' Q
    else match o.guard with
      | none => dstep P E o (maskT pe.ms T) (maskH s L0 pe.mi H) (L0 + (i - s)) fun v b => drun P E n all s L0 (i + 1) rest plan (tput n T o.dst v) (hput H (L0 + (i - s)) b) Q
      | some (j, want) => match guardOf all j with
        | some t => match tget (maskT pe.ms T) t with
          | .d (.bool b) => if b = want then dstep P E o (maskT pe.ms ((t, .d (.bool want)) :: T)) (maskH s L0 pe.mi H) (L0 + (i - s)) fun v b => drun P E n all s L0 (i + 1) rest plan (tput n ((t, .d (.bool want)) :: T) o.dst v) (hput H (L0 + (i - s)) b) Q
            else drun P E n all s L0 (i + 1) rest plan (tput n ((t, .d (.bool !want)) :: T) o.dst (.d (.tuple []))) (hput H (L0 + (i - s)) .dead) Q
          | .d (.tuple []) => drun P E n all s L0 (i + 1) rest plan (tput n T o.dst (.d (.tuple []))) (hput H (L0 + (i - s)) .dead) Q
          | _ => False
        | none => False

def awp (P : Program) (E : Env) (n m : Nat) : Code → Tmps → Heap → (Ex → Tmps → Heap → Prop) → Prop
  | .skip, T, H, Q => Q .normal T H
  | .label _, T, H, Q => Q .normal T H
  | .region _ ops false, T, H, Q => aops P E n ops.toList ops.toList T H (Q .normal)
  | .region _ ops true, T, H, Q => ∃ plan, planOk ops.toList plan = true ∧ drun P E n ops.toList 0 H.length 0 ops.toList plan T H (Q .normal)
  | .seq x y, T, H, Q => awp P E n m x T H fun e T' H' => match e with
    | .normal => awp P E n m y T' H' Q
    | e => Q e T' H'
  | .cond c x y, T, H, Q => match ev T c with
    | .d (.bool b) => if b = true then awp P E n m x (told c true T) H Q else awp P E n m y (told c false T) H Q
    | _ => False
  | .block id x, T, H, Q => awp P E n m x T H fun e T' H' => match e with
    | .exit i => if i = id then Q .normal T' H' else Q (.exit i) T' H'
    | e => Q e T' H'
  | .loop x, T, H, Q => ∃ T' H', Weak m T H T' H' ∧ ∃ k, aloop m (awp P E n m x) Q k T' H'
  | .exit id, T, H, Q => Q (.exit id) T H
  | .ret, T, H, Q => Q .ret T H
  | _, _, _, _ => False

section
variable {P : Program} {E : Env} {C : Ctx} {φ φ' : Nat → Option Loc} {S S' : Nat → Prop} {H H' : Heap} {w w' : World} {T : Tmps} {a : Act} {n m : Nat}

/-- A state of the model that the machine's stands for. -/
structure Stands (C : Ctx) (n : Nat) (T : Tmps) (H : Heap) (φ : Nat → Option Loc) (S : Nat → Prop) (a : Act) (w : World) : Prop where
  heap : HRel C φ S H w
  tmps : TRel φ S H w T a
  size : a.tmps.size = n
  defers : a.defers = []

/-- Behind: a state that the machine leads to. -/
def PostQ (C : Ctx) (n m : Nat) (φ : Nat → Option Loc) (S : Nat → Prop) (H : Heap) (w : World) (Q : Ex → Tmps → Heap → Prop) : Exit → Act → World → Prop := fun e a' w' =>
  ∃ e' T' H' φ' S', Q e' T' H' ∧ e = e'.of ∧ Stands C n T' H' φ' S' a' w' ∧ StepM m φ S H w φ' S' H' w' ∧ Kp C w w'

theorem PostQ.from {Q : Ex → Tmps → Heap → Prop} {e : Exit} {a' : Act} {w'' : World} (hs : StepM m φ S H w φ' S' H' w') (hk : Kp C w w') (h : PostQ C n m φ' S' H' w' Q e a' w'') : PostQ C n m φ S H w Q e a' w'' := by
  obtain ⟨e', T', H1, φ1, S1, q, he, hst, hs', hk'⟩ := h
  exact ⟨e', T', H1, φ1, S1, q, he, hst, hs.trans hs', hk.trans hk'⟩

/-- One operation, then what follows. -/
def NextQ (C : Ctx) (n m : Nat) (φ : Nat → Option Loc) (S : Nat → Prop) (H : Heap) (w : World) (K : Tmps → Heap → Prop) : Act → World → Prop := fun a' w' =>
  ∃ T' H' φ' S', K T' H' ∧ Stands C n T' H' φ' S' a' w' ∧ StepM m φ S H w φ' S' H' w' ∧ Kp C w w'

theorem Stands.put {o : Oper} {v : V} {c : Value} (hst : Stands C n T H φ S a w) (hH : HRel C φ' S' H' w') (hs : Step φ S H w φ' S' H' w') (hv : RV φ' S' H' w' v c) : Stands C n (tput n T o.dst v) H' φ' S' (a.put o.dst c) w' := by
  refine ⟨hH, ?_, by rw [put_size]; exact hst.size, by cases hd : o.dst <;> simp [Act.put, hst.defers]⟩
  have := (hst.tmps.step hs).put hv o.dst
  rw [hst.size] at this
  exact this

theorem calleeOf_rel (hT : TRel φ S H w T a) {fo : Operand} {f : Nat} {gg : List V → List V} (h : calleeOf T fo = some (f, gg)) : ∃ fs cs : List Value, a.eval fo = .func (.func f) fs.toArray cs.toArray ∧ ∀ (as : List V) (cas : List Value), RVs φ S H w as cas → RVs φ S H w (gg as) (fs ++ (cas ++ cs)) := by
  have hr := ev_rel hT fo
  have key : ∀ (k : Nat) (vs : List V) (cs : List Value), RVs φ S H w vs cs → ∀ (as : List V) (cas : List Value), RVs φ S H w as cas → RVs φ S H w (withArgs k vs as) (cs.take k ++ (cas ++ cs.drop k)) := fun k vs cs h as cas has => by
    have h1 : RVs φ S H w (vs.take k) (cs.take k) := ⟨by simp [h.len], fun i v c hv hc => by
      rw [List.getElem?_take] at hv hc
      split at hv
      · rename_i hi; rw [if_pos hi] at hc; exact h.at_ i v c hv hc
      · cases hv⟩
    have h2 : RVs φ S H w (vs.drop k) (cs.drop k) := ⟨by simp [h.len], fun i v c hv hc => by
      rw [List.getElem?_drop] at hv hc; exact h.at_ _ v c hv hc⟩
    exact h1.append (has.append h2)
  unfold calleeOf at h
  split at h
  · rename_i g vs hx
    simp only [Option.some.injEq, Prod.mk.injEq] at h
    obtain ⟨rfl, rfl⟩ := h
    rw [hx] at hr
    generalize hc : a.eval fo = c at hr
    cases hr with | func _ _ cs hl hh => exact ⟨cs.take g.2, cs.drop g.2, rfl, key g.2 vs cs ⟨hl, hh⟩⟩
  · rename_i g ds hx
    simp only [Option.some.injEq, Prod.mk.injEq] at h
    obtain ⟨rfl, rfl⟩ := h
    rw [hx] at hr
    generalize hc : a.eval fo = c at hr
    cases hr with | d _ _ hr => cases hr with | func _ _ cs hl hh =>
      refine ⟨cs.take g.2, cs.drop g.2, rfl, key g.2 (ds.map V.d) cs ⟨by simpa using hl, fun i v c hv hc => ?_⟩⟩
      rw [List.getElem?_map] at hv
      cases hd : ds[i]? with
      | none => simp [hd] at hv
      | some d => simp [hd] at hv; subst hv; exact .d _ _ (hh i d c hd hc)
  · cases h

theorem evs_rel (hT : TRel φ S H w T a) : ∀ (xs : List Operand), RVs φ S H w (xs.map (ev T)) (xs.map a.eval)
  | [] => .nil
  | x :: r => .cons (ev_rel hT x) (evs_rel hT r)

theorem eq_nil_run (d : Nat) {t e : Nat} (A : Option Addr) (l cap : Nat) (h : P.underlying t = some (.slice e)) : (Op.equalIn (d + 1) t (.slice A l cap) (.slice none 0 0)).run P w = .ok A.isNone w := by
  cases A <;> simp [Op.equalIn, run_underlying h]

theorem sliceOf_inv (hE : EOk P E) {t : Nat} {ti : TI} (h : sliceOf E t = some ti) : ∃ e, P.underlying t = some (.slice e) := by
  unfold sliceOf at h
  split at h
  · rename_i ti' ht
    split at h
    · rename_i e hs
      obtain ⟨i, z, d, h1, h2, h3, h4, h5, h5', h6, h7, h8, h9⟩ := (hE _ _ ht).facts
      rw [hs] at h8
      exact ⟨e, by rw [h6]; exact congrArg some h8⟩
    · cases h
  · cases h

theorem nilTest_inv {o : Op} {b : Bool} {pt pf : Prop} (hE : EOk P E) (hT : TRel φ S H w T a) (h : nilTest E T o = some (b, pt, pf)) : ∃ (x : Operand) (t e : Nat), ∃ (A : Option Addr) (l cap : Nat),
    a.eval x = .slice A l cap ∧ ((∃ ty, o = .binOp .eql t x (.const (.slice none 0 0)) ty ∧ b = true) ∨ (∃ ty, o = .binOp .neq t x (.const (.slice none 0 0)) ty ∧ b = false)) ∧ P.underlying t = some (.slice e) ∧ (A = none → pt) ∧ (A ≠ none → pf) := by
  have key : ∀ {x : Operand} {t : Nat} {b' : Bool}, (match sliceOf E t, ev T x with
    | some _, .nils => some (b', True, False)
    | some _, .d (.vec els) => some (b', els = [], True)
    | _, _ => none) = some (b, pt, pf) → b' = b ∧ ∃ (e : Nat) (A : Option Addr) (l cap : Nat), a.eval x = .slice A l cap ∧ P.underlying t = some (.slice e) ∧ (A = none → pt) ∧ (A ≠ none → pf) := by
    intro x t b' h
    have hv := ev_rel hT x
    split at h
    · rename_i ti hs hx
      rw [hx] at hv
      obtain ⟨e, he⟩ := sliceOf_inv hE hs
      simp only [Option.some.injEq, Prod.mk.injEq] at h
      obtain ⟨rfl, rfl, rfl⟩ := h
      have : a.eval x = .slice none 0 0 := by
        generalize a.eval x = c at hv
        cases hv; rfl
      exact ⟨rfl, e, none, 0, 0, this, he, fun _ => trivial, fun h => absurd rfl h⟩
    · rename_i ti els hs hx
      rw [hx] at hv
      obtain ⟨e, he⟩ := sliceOf_inv hE hs
      simp only [Option.some.injEq, Prod.mk.injEq] at h
      obtain ⟨rfl, rfl, rfl⟩ := h
      obtain ⟨A, cap, B, off, sz, m, hc, r1, r2, r3, r4, r5⟩ := hv.vec_inv
      exact ⟨rfl, e, A, _, cap, hc, he, fun hA => Classical.byContradiction fun hn => (by have := r2 hn; rw [hA] at this; cases this), fun _ => trivial⟩
    · cases h
  unfold nilTest at h
  split at h
  · rename_i t x ty
    obtain ⟨rfl, e, A, l, cap, q1, q2, q3, q4⟩ := key h
    exact ⟨x, t, e, A, l, cap, q1, .inl ⟨ty, rfl, rfl⟩, q2, q3, q4⟩
  · rename_i t x ty
    obtain ⟨rfl, e, A, l, cap, q1, q2, q3, q4⟩ := key h
    exact ⟨x, t, e, A, l, cap, q1, .inr ⟨ty, rfl, rfl⟩, q2, q3, q4⟩
  · cases h

theorem astep_sound {o : Oper} {K : Tmps → Heap → Prop} {Q : Exit → Act → World → Prop} (hE : EOk P E)
    (hst : Stands C n T H φ S a w) (h : astep P E n o T H K) : o.wp P a w (NextQ C n m φ S H w K) Q := by
  have other : ∀ {v : V} {ch : Ch} {p : Prop}, evop E T H H.length o.op = some (p, v, ch) → p → K (tput n T o.dst v) (ch.on H H.length) → o.wp P a w (NextQ C n m φ S H w K) Q := fun {v ch p} he hp hk => by
    have hu : hget H H.length = .unborn := by
      clear he hk hst h
      induction H with
      | nil => rfl
      | cons b H ih => exact ih
    obtain ⟨c, w', φ', hg, hv, hH, hs, hkp⟩ := evop_sound hE he hp hu hst.heap hst.tmps
    have hn : NextQ C n m φ S H w K (a.put o.dst c) w' := ⟨_, _, φ', S, hk, hst.put hH hs hv, hs.toM hkp.size, hkp⟩
    unfold Oper.wp
    rcases hg with hg | ⟨hg, rfl⟩ <;> rw [hg] <;> exact hn
  unfold astep at h
  split at h
  · rename_i fo args tys hop
    split at h
    · rename_i f gg hc
      obtain ⟨r, H', hr, hk⟩ := h
      obtain ⟨fs, cs, e1, e2⟩ := calleeOf_rel hst.tmps hc
      have hargs := evs_rel hst.tmps args.toList
      have hcall := hr.2 C φ S w (fs ++ (args.toList.map a.eval ++ cs)) hst.heap (e2 _ _ hargs)
      have hrun : (execOp a.eval o).run P w = .ok (.enter f (fs ++ (args.toList.map a.eval ++ cs)).toArray) w := by
        have harr : fs.toArray ++ args.map a.eval ++ cs.toArray = (fs ++ (args.toList.map a.eval ++ cs)).toArray := by apply Array.ext'; simp
        have hcf := hr.1 (fs ++ (args.toList.map a.eval ++ cs)).toArray w
        simp [execOp, hop, resolve, e1, Deferred.ofValue, invoke, harr, -List.append_toArray, hcf]
      unfold Oper.wp
      rw [hrun]
      refine hcall.mono ?_
      rintro e w' ⟨c, φ', S', rfl, h1, h2, h3, h4⟩
      exact ⟨_, _, φ', S', hk, hst.put h2 h3 h1, h3.toM h4.size, h4⟩
    · exact h.elim
  · split at h
    · rename_i b pt pf hn
      obtain ⟨x, t, e, A, l, cap, e1, e2, e3, e4, e5⟩ := nilTest_inv hE hst.tmps hn
      have hrun : (execOp a.eval o).run P w = .ok (.value (.bool (A.isNone == b))) w := by
        have hEq : (Op.equal t (.slice A l cap) (.slice none 0 0)).run P w = .ok A.isNone w := eq_nil_run 9999 A l cap e3
        have ec : a.eval (.const (.slice none 0 0)) = .slice none 0 0 := rfl
        rcases e2 with ⟨ty, e2, rfl⟩ | ⟨ty, e2, rfl⟩
        · cases A <;> simp [execOp, e2, e1, ec, eqGuard, binOp, hEq]
        · cases A <;> simp [execOp, e2, e1, ec, eqGuard, binOp, hEq]
      unfold Oper.wp
      rw [hrun]
      cases A with
      | none =>
        have : (((none : Option Addr)).isNone == b) = b := by cases b <;> rfl
        rw [this]
        exact ⟨_, _, φ, S, h.1 (e4 rfl), hst.put hst.heap .refl (.d _ _ (.bool _)), .refl, .refl⟩
      | some A =>
        have : (((some A : Option Addr)).isNone == b) = !b := by cases b <;> rfl
        rw [this]
        exact ⟨_, _, φ, S, h.2 (e5 (by simp)), hst.put hst.heap .refl (.d _ _ (.bool _)), .refl, .refl⟩
    · split at h
      · rename_i p v ch he
        exact other he h.1 h.2
      · exact h.elim

theorem yielded_of {all : Array Oper} {j t : Nat} {b : Bool} (hg : guardOf all.toList j = some t) (hT : TRel φ S H w T a) (ht : tget T t = .d (.bool b)) : yielded all a.tmps j = some b := by
  unfold guardOf at hg
  split at hg
  · rename_i o ho
    have ho' : all[j]? = some o := by simpa using ho
    have hv := hT t
    rw [ht] at hv
    have e := hv.bool_inv
    have hlt : t < a.tmps.size := by
      rcases Nat.lt_or_ge t a.tmps.size with h | h
      · exact h
      · simp [Nat.not_lt.2 h, undef] at e
    simp [hlt] at e
    simp [yielded, ho', hg, hlt, e]
  · cases hg

/-- What was not wanted yields nothing. -/
theorem tuple0_inv {c : Value} (h : RV φ S H w (.d (.tuple [])) c) : c = undef := by
  cases h with
  | d _ _ h =>
    cases h with
    | tuple _ cs hl _ =>
      have : cs = [] := List.length_eq_zero_iff.1 (by simpa using hl.symm)
      subst this; rfl

theorem yielded_no {all : Array Oper} {j t : Nat} (hg : guardOf all.toList j = some t) (hc : a.tmps.getD t undef = undef) : yielded all a.tmps j = none := by
  unfold guardOf at hg
  split at hg
  · rename_i o ho
    have ho' : all[j]? = some o := by simpa using ho
    rcases Nat.lt_or_ge t a.tmps.size with hlt | hlt
    · simp [hlt] at hc
      simp [yielded, ho', hg, hlt, hc, undef]
    · simp [yielded, ho', hg, Nat.not_lt.2 hlt]
  · cases hg

theorem TRel.told (hT : TRel φ S H w T a) {t : Nat} {v : V} (h : RV φ S H w v (a.tmps.getD t undef)) : TRel φ S H w ((t, v) :: T) a := fun s => by
  simp only [tget]
  split
  · rename_i e; subst e; exact h
  · exact hT s

theorem Stands.skip (hst : Stands C n T H φ S a w) (dst : Option Nat) : Stands C n (tput n T dst (.d (.tuple []))) H φ S (a.put dst undef) w := by
  refine ⟨hst.heap, ?_, by rw [put_size]; exact hst.size, by cases dst <;> simp [Act.put, hst.defers]⟩
  have := hst.tmps.put (v := .d (.tuple [])) (c := undef) (.d _ _ (.tuple [] [] rfl (fun i d c h => by simp at h))) dst
  rw [hst.size] at this
  exact this

theorem aops_sound (hE : EOk P E) {all : Array Oper} {Q : Tmps → Heap → Prop} {Q' : Exit → Act → World → Prop} : ∀ (rest : List Oper) (k : Nat) {T : Tmps} {H : Heap} {φ : Nat → Option Loc} {S : Nat → Prop} {a : Act} {w : World}, (∀ i, rest[i]? = all.toList[k + i]?) → k + rest.length = all.size →
    Stands C n T H φ S a w → aops P E n all.toList rest T H Q → (∀ a' w', NextQ C n m φ S H w Q a' w' → Q' .normal a' w') → wpOps P all Q' ((List.range rest.length).map (k + ·)) a w
  | [], k, T, H, φ, S, a, w, _, _, hst, h, hQ => hQ _ _ ⟨T, H, φ, S, h, hst, .refl, .refl⟩
  | o :: rest, k, T, H, φ, S, a, w, hr, hl, hst, h, hQ => by
    have ho : all[k]? = some o := by have := hr 0; simpa using this.symm
    have hrest : ∀ i, rest[i]? = all.toList[k + 1 + i]? := fun i => by have := hr (i + 1); rw [show k + (i + 1) = k + 1 + i by omega] at this; simpa using this
    have hlist : (List.range (o :: rest).length).map (k + ·) = k :: (List.range rest.length).map (k + 1 + ·) := by
      rw [List.length_cons, List.range_succ_eq_map]
      simp only [List.map_cons, List.map_map, Nat.add_zero]
      congr 1
      apply List.map_congr_left
      intro i _
      simp; omega
    rw [hlist]
    simp only [wpOps, ho]
    have step : ∀ {T : Tmps}, Stands C n T H φ S a w → astep P E n o T H (fun T' H' => aops P E n all.toList rest T' H' Q) → o.wp P a w (wpOps P all Q' ((List.range rest.length).map (k + 1 + ·))) Q' := fun {T} hst h => by
      refine Oper.wp_mono ?_ (astep_sound (m := m) (Q := Q') hE hst h)
      rintro a' w' ⟨T', H', φ', S', h1, h2, h3, h4⟩
      exact aops_sound hE rest (k + 1) hrest (by simp at hl; omega) h2 h1 (fun a'' w'' ⟨T2, H2, φ2, S2, g1, g2, g3, g4⟩ => hQ _ _ ⟨T2, H2, φ2, S2, g1, g2, h3.trans g3, h4.trans g4⟩)
    simp only [aops] at h
    split at h
    · rename_i hg
      have hw : Region.wanted o (yielded all a.tmps) = true := by simp [Region.wanted, hg]
      rw [if_pos hw]
      exact .inl (step hst h)
    · rename_i j want hg
      split at h
      · rename_i t ht
        split at h
        · rename_i b hb
          have hy := yielded_of ht hst.tmps hb
          have hv := hst.tmps t
          rw [hb] at hv
          split at h
          · rename_i hbw
            subst hbw
            have hw : Region.wanted o (yielded all a.tmps) = true := by simp [Region.wanted, hg, hy]
            rw [if_pos hw]
            exact .inl (step ⟨hst.heap, hst.tmps.told hv, hst.size, hst.defers⟩ h)
          · rename_i hbw
            have hw : ¬ Region.wanted o (yielded all a.tmps) = true := by simp [Region.wanted, hg, hy]; exact hbw
            rw [if_neg hw]
            have hbn : b = !want := by cases b <;> cases want <;> simp_all
            subst hbn
            exact aops_sound hE rest (k + 1) hrest (by simp at hl; omega) (Stands.skip ⟨hst.heap, hst.tmps.told hv, hst.size, hst.defers⟩ o.dst) h hQ
        · rename_i hb
          have hv := hst.tmps t
          rw [hb] at hv
          have hy := yielded_no ht (tuple0_inv hv)
          have hw : ¬ Region.wanted o (yielded all a.tmps) = true := by simp [Region.wanted, hg, hy]
          rw [if_neg hw]
          exact aops_sound hE rest (k + 1) hrest (by simp at hl; omega) (Stands.skip hst o.dst) h hQ
        · exact h.elim
      · exact h.elim

end
end Go.Proofs.Ythpapgbpmkgfeaa.AM
