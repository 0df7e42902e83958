/- One operation of the machine is one of the model: what computes, and what reads. -/
import Derived.Test.YthpapgbpmkgfeaaAm2
set_option linter.all false
namespace Go.Proofs.Ythpapgbpmkgfeaa.AM
open Go Go.RowKit

def TRel (φ : Nat → Option Loc) (S : Nat → Prop) (H : Heap) (w : World) (T : Tmps) (a : Act) : Prop :=
  ∀ t, RV φ S H w (tget T t) (a.tmps.getD t undef)

section
variable {P : Program} {E : Env} {C : Ctx} {φ : Nat → Option Loc} {S : Nat → Prop} {H : Heap} {w : World} {T : Tmps} {a : Act}

theorem ofVal_rel (c : Value) : RV φ S H w (ofVal c) c := by
  unfold ofVal
  split
  · exact .d _ _ (.bool _)
  · exact .d _ _ (.int _ _)
  · exact .d _ _ .nilp
  · exact .nils
  · exact .d _ _ .nilf
  · exact .d _ _ (.undef _)

theorem ev_rel (hT : TRel φ S H w T a) (x : Operand) : RV φ S H w (ev T x) (a.eval x) := by
  cases x with
  | tmp t => exact hT t
  | const v => exact ofVal_rel v
  | global g => exact .d _ _ (.undef _)
  | func f => exact .func (f, 0) [] [] rfl (fun i v c h => by simp at h)

theorem TRel.step {φ' : Nat → Option Loc} {S' : Nat → Prop} {H' : Heap} {w' : World} (hT : TRel φ S H w T a) (hs : Step φ S H w φ' S' H' w') : TRel φ' S' H' w' T a :=
  fun t => (hT t).step hs

/-- A value into a slot. -/
def tput (n : Nat) (T : Tmps) (dst : Option Nat) (v : V) : Tmps :=
  match dst with
  | some t => if t < n then (t, v) :: T else T
  | none => T

theorem TRel.put (hT : TRel φ S H w T a) {v : V} {c : Value} (hv : RV φ S H w v c) (dst : Option Nat) : TRel φ S H w (tput a.tmps.size T dst v) (a.put dst c) := by
  intro t
  cases dst with
  | none => exact hT t
  | some s =>
    simp only [tput, Act.put]
    by_cases hs : s < a.tmps.size
    · simp only [hs, if_true, tget]
      by_cases ht : t = s
      · subst ht; simp only [if_true]
        have : (a.tmps.setIfInBounds t c).getD t undef = c := by simp [hs]
        rw [this]; exact hv
      · simp only [ht, if_false]
        have : (a.tmps.setIfInBounds s c).getD t undef = a.tmps.getD t undef := by
          simp only [Array.getD_eq_getD_getElem?, Array.getElem?_setIfInBounds]
          rw [if_neg (fun h => ht h.symm)]
        rw [this]; exact hT t
    · simp only [hs, if_false]
      have : a.tmps.setIfInBounds s c = a.tmps := Array.setIfInBounds_eq_of_size_le (by omega)
      rw [this]; exact hT t

theorem put_size (a : Act) (dst : Option Nat) (c : Value) : (a.put dst c).tmps.size = a.tmps.size := by
  cases dst <;> simp [Act.put]

/-- What E says of a type is so. -/
def ShapeOk (P : Program) (d : TypeDesc) : Shape → Prop
  | .slice e => d = .slice e
  | .array n e => d = .array n e
  | .struct fs => ∃ fields, d = .struct fields ∧ fs.length = fields.size ∧ ∀ (i : Nat) (f : Field), fields[i]? = some f → ∃ j, P.info? f.type = some j ∧ fs[i]? = some (f.offset, j.size)
  | .int k => d = .int k
  | .bool => d = .bool
  | .other => True

def aggDesc : TypeDesc → Bool
  | .struct _ | .array .. => true
  | _ => false

/-- A struct of numbers and bools, one cell each, in order. -/
def CmpOk (P : Program) (t : Nat) (d : TypeDesc) (cmp : List Bool) : Prop :=
  P.eqGuardType P.depth t = false ∧ P.stoodInHeld t = false ∧ ∃ fields, d = .struct fields ∧ fields.size = cmp.length ∧
    ∀ (i : Nat) (f : Field), fields[i]? = some f → f.name ≠ "_" ∧ f.offset = i ∧ ((cmp[i]? = some false ∧ ∃ k, P.underlying f.type = some (.int k)) ∨ (cmp[i]? = some true ∧ P.underlying f.type = some .bool))

structure TOk (P : Program) (t : Nat) (ti : TI) : Prop where
  facts : ∃ i z d, P.info? t = some i ∧ i.size = ti.size ∧ i.bytes = ti.bytes ∧ i.zero = some z ∧ ti.zero = z.cells.toList.map ofVal ∧ z.cells.size = ti.size ∧
    P.underlying t = some d ∧ ti.agg = aggDesc d ∧ ShapeOk P d ti.shape ∧ (ti.cmp ≠ [] → CmpOk P t d ti.cmp)

def EOk (P : Program) (E : Env) : Prop := ∀ t ti, E t = some ti → TOk P t ti

theorem run_isAgg' {t : Nat} {d : TypeDesc} (h : P.underlying t = some d) : (isAgg t).run P w = .ok (aggDesc d) w := by
  simp only [isAgg, Sem.run_bind, run_underlying h, Result.andThen_ok]
  cases d <;> simp [aggDesc]

theorem run_sizeOf' {t : Nat} {i : TypeInfo} (h : P.info? t = some i) : (sizeOf t).run P w = .ok i.size w := by
  simp [sizeOf, typeInfo, h]

/-- What an operation yields. -/
def Gives (P : Program) (o : Oper) (a : Act) (w : World) (c : Value) (w' : World) : Prop :=
  (execOp a.eval o).run P w = .ok (.value c) w' ∨ ((execOp a.eval o).run P w = .ok .skip w' ∧ c = undef)

/-- A step's outcome. -/
def Out (P : Program) (C : Ctx) (φ : Nat → Option Loc) (S : Nat → Prop) (H : Heap) (w : World) (o : Oper) (a : Act) (v : V) (H' : Heap) : Prop :=
  ∃ c w' φ', Gives P o a w c w' ∧ RV φ' S H' w' v c ∧ HRel C φ' S H' w' ∧ Step φ S H w φ' S H' w' ∧ Kp C w w'

theorem Out.quiet {o : Oper} {v : V} {c : Value} (hH : HRel C φ S H w) (hr : (execOp a.eval o).run P w = .ok (.value c) w) (hv : RV φ S H w v c) : Out P C φ S H w o a v H :=
  ⟨c, w, φ, .inl hr, hv, hH, .refl, .refl⟩

/-! ### inversions -/
theorem RV.bool_inv {b : Bool} {c : Value} (h : RV φ S H w (.d (.bool b)) c) : c = .bool b := by cases h with | d x c h => cases h; rfl
theorem RV.int_inv {k : IntKind} {n : Int} {c : Value} (h : RV φ S H w (.d (.int k n)) c) : c = .int k n := by cases h with | d x c h => cases h; rfl

theorem RV.tuple_inv {vs : List V} {c : Value} (h : RV φ S H w (.tuple vs) c) : ∃ cs : List Value, c = .tuple cs.toArray ∧ vs.length = cs.length ∧ ∀ (i : Nat) (v : V) (c : Value), vs[i]? = some v → cs[i]? = some c → RV φ S H w v c := by
  cases h with | tuple _ cs hl h => exact ⟨cs, rfl, hl, h⟩
theorem RV.dtuple_inv {ds : List D} {c : Value} (h : RV φ S H w (.d (.tuple ds)) c) : ∃ cs : List Value, c = .tuple cs.toArray ∧ ds.length = cs.length ∧ ∀ (i : Nat) (d : D) (c : Value), ds[i]? = some d → cs[i]? = some c → RD S w d c := by
  cases h with | d x c h => cases h with | tuple _ cs hl h => exact ⟨cs, rfl, hl, h⟩

/-! ### what computes -/
theorem out_move {o : Oper} {x : Operand} (ho : o.op = .move x ∨ o.op = .assign x) (hH : HRel C φ S H w) (hT : TRel φ S H w T a) : Out P C φ S H w o a (ev T x) H := by
  refine .quiet hH (c := a.eval x) ?_ (ev_rel hT x)
  rcases ho with ho | ho <;> simp [execOp, ho]

theorem out_pick {o : Oper} {c x y : Operand} {t : Bool} (ho : o.op = .pick c x y) (hc : ev T c = .d (.bool t)) (hH : HRel C φ S H w) (hT : TRel φ S H w T a) :
    Out P C φ S H w o a (ev T (if t then x else y)) H := by
  have h := ev_rel hT c
  rw [hc] at h
  refine .quiet hH (c := a.eval (if t then x else y)) ?_ (ev_rel hT _)
  simp only [execOp, ho]
  rw [h.bool_inv]
  cases t <;> simp [asBool]

theorem out_not {o : Oper} {ty : Nat} {x : Operand} {b : Bool} (ho : o.op = .unOp .not ty x) (hx : ev T x = .d (.bool b)) (hH : HRel C φ S H w) (hT : TRel φ S H w T a) :
    Out P C φ S H w o a (.d (.bool (!b))) H := by
  have h := ev_rel hT x
  rw [hx] at h
  refine .quiet hH (c := .bool (!b)) ?_ (.d _ _ (.bool _))
  simp only [execOp, ho]
  rw [h.bool_inv]
  simp [Op.unary]

theorem eqGuard_int (op : BinOp) (t : TypeId) (x y : Operand) (k k' : IntKind) (n m : Int) : (eqGuard op t x y (.int k n) (.int k' m)).run P w = .ok () w := by
  unfold eqGuard
  split <;> simp
theorem eqGuard_bool (op : BinOp) (t : TypeId) (x y : Operand) (b b' : Bool) : (eqGuard op t x y (.bool b) (.bool b')).run P w = .ok () w := by
  unfold eqGuard
  split <;> simp

theorem out_int {o : Oper} {op : BinOp} {ty ty' : Nat} {x y : Operand} {k : IntKind} {n m : Int} {p : Prop} {r : D} (ho : o.op = .binOp op ty x y ty') (hx : ev T x = .d (.int k n)) (hy : ev T y = .d (.int k m))
    (hr : intBin op k n m = some (p, r)) (hp : p) (hH : HRel C φ S H w) (hT : TRel φ S H w T a) : Out P C φ S H w o a (.d r) H := by
  have h := ev_rel hT x
  rw [hx] at h
  have h' := ev_rel hT y
  rw [hy] at h'
  have e1 := h.int_inv
  have e2 := h'.int_inv
  have key : ∀ (c : Value), (binOp op ty (.int k n) (.int k m)).run P w = .ok c w → RV φ S H w (.d r) c → Out P C φ S H w o a (.d r) H := fun c hc hv => by
    refine .quiet hH (c := c) ?_ hv
    simp only [execOp, ho, e1, e2, Sem.run_bind, eqGuard_int, Result.andThen_ok, hc, Sem.run_pure]
  cases op <;> simp only [intBin, Option.some.injEq, Prod.mk.injEq, reduceCtorEq] at hr <;> obtain ⟨rfl, rfl⟩ := hr
  case add => exact key _ (by simp [binOp, Op.intArith]) (.d _ _ (.int _ _))
  case sub => exact key _ (by simp [binOp, Op.intArith]) (.d _ _ (.int _ _))
  case mul => exact key _ (by simp [binOp, Op.intArith]) (.d _ _ (.int _ _))
  case quo => exact key _ (by simp [binOp, Op.intDiv, hp]) (.d _ _ (.int _ _))
  case rem => exact key _ (by simp [binOp, Op.intDiv, hp]) (.d _ _ (.int _ _))
  case eql => exact key _ (by simp [binOp, Op.intCmp]) (.d _ _ (.bool _))
  case neq => exact key _ (by simp [binOp, Op.intCmp]) (.d _ _ (.bool _))
  case lss => exact key _ (by simp [binOp, Op.intCmp]) (.d _ _ (.bool _))
  case leq => exact key _ (by simp [binOp, Op.intCmp]) (.d _ _ (.bool _))
  case gtr => exact key _ (by simp [binOp, Op.intCmp]) (.d _ _ (.bool _))
  case geq => exact key _ (by simp [binOp, Op.intCmp]) (.d _ _ (.bool _))
  case shr => exact key _ (by rw [binOp_shr, shift_shr _ _ _ _ hp.1 hp.2]; rfl) (.d _ _ (.int _ _))
  case shl => exact key _ (by rw [binOp_shl, shift_shl _ _ _ _ hp.1 hp.2]; rfl) (.d _ _ (.int _ _))
  case and => exact key _ (by simp [binOp_and, binOp_or, binOp_xor, binOp_andNot, intBits_and, intBits_or, intBits_xor, intBits_andNot]) (.d _ _ (.int _ _))
  case or => exact key _ (by simp [binOp_and, binOp_or, binOp_xor, binOp_andNot, intBits_and, intBits_or, intBits_xor, intBits_andNot]) (.d _ _ (.int _ _))
  case xor => exact key _ (by simp [binOp_and, binOp_or, binOp_xor, binOp_andNot, intBits_and, intBits_or, intBits_xor, intBits_andNot]) (.d _ _ (.int _ _))
  case andNot => exact key _ (by simp [binOp_and, binOp_or, binOp_xor, binOp_andNot, intBits_and, intBits_or, intBits_xor, intBits_andNot]) (.d _ _ (.int _ _))

theorem out_extract {o : Oper} {x : Operand} {i : Nat} {vs : List V} {v : V} (ho : o.op = .extract x i) (hx : ev T x = .tuple vs) (hv : vs[i]? = some v) (hH : HRel C φ S H w) (hT : TRel φ S H w T a) :
    Out P C φ S H w o a v H := by
  have h := ev_rel hT x
  rw [hx] at h
  obtain ⟨cs, e, hl, hh⟩ := h.tuple_inv
  have hi : i < cs.length := by rw [← hl]; exact (List.getElem?_eq_some_iff.1 hv).1
  refine .quiet hH (c := cs[i]) ?_ (hh i v _ hv (List.getElem?_eq_getElem hi))
  simp [execOp, ho, e, Instr.extract, hi]

theorem out_dextract {o : Oper} {x : Operand} {i : Nat} {vs : List D} {v : D} (ho : o.op = .extract x i) (hx : ev T x = .d (.tuple vs)) (hv : vs[i]? = some v) (hH : HRel C φ S H w) (hT : TRel φ S H w T a) :
    Out P C φ S H w o a (.d v) H := by
  have h := ev_rel hT x
  rw [hx] at h
  obtain ⟨cs, e, hl, hh⟩ := h.dtuple_inv
  have hi : i < cs.length := by rw [← hl]; exact (List.getElem?_eq_some_iff.1 hv).1
  refine .quiet hH (c := cs[i]) ?_ (.d _ _ (hh i v _ hv (List.getElem?_eq_getElem hi)))
  simp [execOp, ho, e, Instr.extract, hi]

end
end Go.Proofs.Ythpapgbpmkgfeaa.AM
