/- One operation of the machine is one of the model: literals of slices and structs, append, equality. -/
import Derived.Test.YthpapgbpmkgfeaaAm6
set_option linter.all false
namespace Go.Proofs.Ythpapgbpmkgfeaa.AM
open Go Go.RowKit

section
variable {P : Program} {E : Env} {C : Ctx} {φ φ' : Nat → Option Loc} {S S' : Nat → Prop} {H H' : Heap} {w w' : World} {T : Tmps} {a : Act}

theorem setCells_splice (off : Nat) : ∀ (vs : List Value) (k : Nat) (A : Array Value), off + k + vs.length ≤ A.size →
    ((vs.zipIdx k).foldl (fun cs (p : Value × Nat) => cs.setIfInBounds (off + p.2) p.1) A).toList = splice A.toList (off + k) vs
  | [], k, A, _ => by simp [splice]
  | v :: r, k, A, h => by
    simp only [List.zipIdx_cons, List.foldl_cons]
    rw [setCells_splice off r (k + 1) _ (by simp at h ⊢; omega)]
    simp only [Array.toList_setIfInBounds]
    unfold splice
    have := list_seg_step A.toList (off + k) v r (by simp at h ⊢; omega)
    simpa [Nat.add_assoc] using this

theorem fill_step {place : Nat → Option (Nat × Nat)} {i off size : Nat} {v : Value} {rest : List (Nat × Value)} {A : Array Value} (hp : place i = some (off, size)) (hs : v.cells.size = size) (hfit : off + size ≤ A.size) :
    Instr.fill place A ((i, v) :: rest) = Instr.fill place (splice A.toList off v.cells.toList).toArray rest := by
  have h1 : ¬ (v.cells.size ≠ size || decide (off + v.cells.size > A.size)) = true := by simp [hs]; omega
  simp only [Instr.fill, hp]
  rw [if_neg (by simpa using h1)]
  congr 1
  apply Array.ext'
  have := setCells_splice off v.cells.toList 0 A (by simp [hs]; omega)
  simp only [Nat.add_zero] at this
  rw [← Array.foldl_toList, Array.toList_zipIdx]
  simpa using this

/-- Cells written over by parts. -/
theorem fill_rel {place : Nat → Option (Nat × Nat)} (hT : TRel φ S H w T a) : ∀ (parts : List (Nat × Operand)) (cells out : List V) (cs : List Value), RVs φ S H w cells cs → partsV T place parts cells = some out →
    ∃ cs', Instr.fill place cs.toArray (parts.map fun p => (p.1, a.eval p.2)) = some cs' ∧ RVs φ S H w out cs'.toList
  | [], cells, out, cs, hr, h => by simp [partsV] at h; subst h; exact ⟨cs.toArray, rfl, by simpa using hr⟩
  | (i, x) :: r, cells, out, cs, hr, h => by
    simp only [partsV] at h
    split at h
    · rename_i off size hp
      split at h
      · rename_i hc
        simp only [Bool.and_eq_true, decide_eq_true_eq, Bool.not_eq_true'] at hc
        obtain ⟨⟨h1, h2⟩, h3⟩ := hc
        have hx := (ev_rel hT x).cells h3
        have hlen := hx.len
        simp at hlen
        rw [List.map_cons, fill_step hp (by show (a.eval x).cells.size = size; omega) (by simp; rw [← hr.len]; omega)]
        exact fill_rel hT r _ out _ (hr.splice hx off) h
      · cases h
    · cases h

theorem run_places' {fields : Array Field} {fs : List (Nat × Nat)} (hlen : fs.length = fields.size) (hf : ∀ (i : Nat) (f : Field), fields[i]? = some f → ∃ j, P.info? f.type = some j ∧ fs[i]? = some (f.offset, j.size)) :
    (fields.mapM (fun f => Prod.mk f.offset <$> sizeOf f.type : Field → Sem (Nat × Nat))).run P w = .ok fs.toArray w := by
  rw [Array.mapM_eq_mapM_toList]
  have key : ∀ (l : List Field) (gs : List (Nat × Nat)), gs.length = l.length → (∀ (i : Nat) (f : Field), l[i]? = some f → ∃ j, P.info? f.type = some j ∧ gs[i]? = some (f.offset, j.size)) →
      (l.mapM (fun f => Prod.mk f.offset <$> sizeOf f.type : Field → Sem (Nat × Nat))).run P w = .ok gs w := by
    intro l
    induction l with
    | nil => intro gs hl _; cases gs with
      | nil => simp
      | cons => simp at hl
    | cons f l ih =>
      intro gs hl hg
      cases gs with
      | nil => simp at hl
      | cons g gs =>
        obtain ⟨j, hj, e⟩ := hg 0 f rfl
        simp at e; subst e
        have ih' := ih gs (by simpa using hl) (fun i f' hf' => by have := hg (i + 1) f' (by simpa using hf'); simpa using this)
        simp only [List.mapM_cons, Sem.run_bind, Sem.run_map, run_sizeOf' hj, Result.andThen_ok, Sem.run_pure, ih']
  have := key fields.toList fs (by simpa using hlen) (fun i f h => hf i f (by simpa using h))
  simp [this]

theorem zero_rel {ti : TI} {z : Value} (h : ti.zero = z.cells.toList.map ofVal) : RVs φ S H w ti.zero z.cells.toList := by
  rw [h]
  refine ⟨by simp, fun i v c hv hc => ?_⟩
  rw [List.getElem?_map, hc] at hv
  simp at hv; subst hv
  exact ofVal_rel c

theorem out_build_struct {o : Oper} {t : Nat} {parts : Array (Nat × Operand)} {ti : TI} {fs : List (Nat × Nat)} {cells : List V} (ho : o.op = .build t parts) (ht : TOk P t ti) (hsh : ti.shape = .struct fs)
    (hp : partsV T (fun i => fs[i]?) parts.toList ti.zero = some cells) (hH : HRel C φ S H w) (hT : TRel φ S H w T a) : Out P C φ S H w o a (.agg cells) H := by
  obtain ⟨i, z, d, h1, h2, h3, h4, h5, h5', h6, h7, h8, h9⟩ := ht.facts
  rw [hsh] at h8
  obtain ⟨fields, rfl, hlen, hf⟩ := h8
  obtain ⟨cs', r1, r2⟩ := fill_rel hT parts.toList ti.zero cells z.cells.toList (zero_rel h5) hp
  refine .quiet hH (c := .agg cs') ?_ ?_
  · have hpl := run_places' (P := P) (w := w) hlen hf
    have r1' : Instr.fill (fun x => fs[x]?) z.cells (parts.toList.map fun p => (p.1, a.eval p.2)) = some cs' := by simpa using r1
    simp [execOp, ho, Instr.build, run_zeroValue' h1 h4, run_underlying h6, hpl, r1']
  · have := RV.agg (φ := φ) (S := S) (H := H) (w := w) cells cs'.toList r2.len r2.at_
    simpa using this

theorem out_build_array {o : Oper} {t m et : Nat} {parts : Array (Nat × Operand)} {ti eti : TI} {cells : List V} (ho : o.op = .build t parts) (ht : TOk P t ti) (hsh : ti.shape = .array m et) (het : TOk P et eti)
    (hp : partsV T (fun i => some (i * eti.size, eti.size)) parts.toList ti.zero = some cells) (hH : HRel C φ S H w) (hT : TRel φ S H w T a) : Out P C φ S H w o a (.agg cells) H := by
  obtain ⟨i, z, d, h1, h2, h3, h4, h5, h5', h6, h7, h8, h9⟩ := ht.facts
  obtain ⟨i', z', d', g1, g2, _⟩ := het.facts
  rw [hsh] at h8
  simp only [ShapeOk] at h8
  subst h8
  obtain ⟨cs', r1, r2⟩ := fill_rel hT parts.toList ti.zero cells z.cells.toList (zero_rel h5) hp
  refine .quiet hH (c := .agg cs') ?_ ?_
  · have r1' : Instr.fill (fun i => some (i * eti.size, eti.size)) z.cells (parts.toList.map fun p => (p.1, a.eval p.2)) = some cs' := by simpa using r1
    simp [execOp, ho, Instr.build, run_zeroValue' h1 h4, run_underlying h6, run_sizeOf' g1, g2, r1']
  · have := RV.agg (φ := φ) (S := S) (H := H) (w := w) cells cs'.toList r2.len r2.at_
    simpa using this

/-! ### a slice's literal -/

theorem RV.toD_rel {v : V} {c : Value} {x : D} (h : RV φ S H w v c) (hc : v.toD = some x) : RD S w x c := by
  cases h with
  | d y c hy => simp [V.toD] at hc; subst hc; exact hy
  | nils => simp [V.toD] at hc; subst hc; exact RV.clo_rel (φ := fun _ => none) (H := []) .nils rfl
  | agg vs cs hl h =>
    simp only [V.toD] at hc
    split at hc
    · rename_i ds hds
      simp at hc; subst hc
      obtain ⟨h1, h2⟩ := RVs.clos ⟨hl, h⟩ hds
      exact .agg ds cs h1 h2
    · cases hc
  | ptr => simp [V.toD] at hc
  | own => simp [V.toD] at hc
  | tuple => simp [V.toD] at hc
  | func => simp [V.toD] at hc

/-- The cells of closed data. -/
theorem RD.cells {x : D} {c : Value} (h : RD S w x c) (hu : x.cells.all (fun d => (V.d d).one) = true) : x.cells.length = c.cells.size ∧ ∀ (k : Nat) (d : D) (y : Value), x.cells[k]? = some d → c.cells[k]? = some y → RD S w d y := by
  have hx : (V.d x).isUndef = false := by cases x <;> simp [V.isUndef, D.cells, V.one] at hu ⊢
  have hr := (RV.d (φ := fun _ => none) (S := S) (H := []) (w := w) x c h).cells hx
  have e : (V.d x).cells = x.cells.map V.d := by cases x <;> simp [V.cells, D.cells]
  rw [e] at hr
  refine ⟨by simpa using hr.len, fun k d y hd hy => ?_⟩
  have := hr.at_ k (.d d) y (by simp [hd]) (by simpa using hy)
  cases this; assumption

theorem flat_get {α : Type} (sz : Nat) : ∀ (ls : List (List α)), (∀ l ∈ ls, l.length = sz) → ∀ (i k : Nat) (l : List α), ls[i]? = some l → k < sz → ls.flatten[i * sz + k]? = l[k]?
  | [], _, i, k, l, h, _ => by simp at h
  | x :: r, hs, i, k, l, h, hk => by
    rw [List.flatten_cons, List.getElem?_append]
    have hx : x.length = sz := hs x (by simp)
    cases i with
    | zero => simp at h; subst h; rw [if_pos (by omega)]; simp
    | succ i =>
      rw [if_neg (by rw [hx, Nat.add_mul]; omega), hx]
      have : (i + 1) * sz + k - sz = i * sz + k := by rw [Nat.add_mul]; omega
      rw [this]
      exact flat_get sz r (fun l hl => hs l (by simp [hl])) i k l (by simpa using h) hk

theorem flat_length {α : Type} (sz : Nat) : ∀ (ls : List (List α)), (∀ l ∈ ls, l.length = sz) → ls.flatten.length = ls.length * sz
  | [], _ => by simp
  | x :: r, hs => by
    rw [List.flatten_cons, List.length_append, flat_length sz r (fun l hl => hs l (by simp [hl])), hs x (by simp)]
    simp [Nat.add_mul]; omega

theorem partsD_spec (hT : TRel φ S H w T a) {sz : Nat} : ∀ (parts : List (Nat × Operand)) (i : Nat) (els : List D), partsD T sz i parts = some els →
    parts.length = els.length ∧ ∀ (k : Nat) (p : Nat × Operand) (e : D), parts[k]? = some p → els[k]? = some e → p.1 = i + k ∧ e.cells.length = sz ∧ RD S w e (a.eval p.2) ∧ e.cells.all (fun d => (V.d d).one) = true
  | [], i, els, h => by simp [partsD] at h; subst h; simp
  | (j, x) :: r, i, els, h => by
    simp only [partsD] at h
    split at h
    · rename_i e es he hes
      split at h
      · rename_i hc
        simp only [Bool.and_eq_true, decide_eq_true_eq] at hc
        obtain ⟨⟨h1, h2⟩, h3⟩ := hc
        simp at h; subst h
        obtain ⟨g1, g2⟩ := partsD_spec hT r (i + 1) es hes
        refine ⟨by simp [g1], fun k p e' hp he' => ?_⟩
        cases k with
        | zero =>
          simp at hp he'; subst hp; subst he'
          refine ⟨by simpa using h1.symm, h2, (ev_rel hT x).toD_rel he, ?_⟩
          revert h3 he
          generalize ev T x = v
          intro he h3
          cases v with
          | d y =>
            obtain rfl : y = e := by simpa [V.toD] using he
            cases y <;> simp_all [V.cells, D.cells]
          | nils =>
            obtain rfl : D.vec [] = e := by simpa [V.toD] using he
            simp [D.cells, V.one]
          | agg vs =>
            simp only [V.toD] at he
            split at he
            · rename_i ds hds
              obtain rfl : D.agg ds = e := by simpa using he
              obtain ⟨q1, q2⟩ := clos_spec hds
              simp only [D.cells, List.all_eq_true]
              intro d hd
              obtain ⟨m, hm⟩ := List.mem_iff_getElem?.1 hd
              have hm' : m < vs.length := by rw [q1]; exact (List.getElem?_eq_some_iff.1 hm).1
              have hv := q2 m _ d (List.getElem?_eq_getElem hm') hm
              have ho := List.all_eq_true.1 h3 vs[m] (by simp [V.cells])
              revert hv ho
              generalize vs[m] = v
              intro hv ho
              cases v with
              | d y => simp [V.clo] at hv; subst hv; exact ho
              | nils => simp [V.clo] at hv; subst hv; rfl
              | _ => simp [V.clo] at hv
            · cases he
          | _ => simp [V.toD] at he
        | succ k =>
          obtain ⟨q1, q2⟩ := g2 k p e' (by simpa using hp) (by simpa using he')
          exact ⟨by omega, q2⟩
      · cases h
    · cases h

end
end Go.Proofs.Ythpapgbpmkgfeaa.AM
