/- An abstract machine over the kit's Code: closed data, values with ids of blocks of the call's own, one step of an operation. -/
import Derived.WalkKit
set_option linter.all false
namespace Go.Proofs.Ythpapgbpmkgfeaa.AM
open Go

/-- Closed data: no address in it. -/
inductive D where
  | bool (b : Bool)
  | int (k : IntKind) (n : Int)
  | agg (cs : List D)
  | tuple (cs : List D)
  | vec (els : List D)
  | imm (e : D) (j : Nat)
  | nilp
  | func (f : Nat × Nat) (cap : List D)
  | nilf
  | undef

/-- Values of a frame: closed data, or what points into blocks of the call's own. -/
inductive V where
  | d (x : D)
  | nils
  | ptr (id i j : Nat)
  | own (id off len : Nat)
  | agg (cs : List V)
  | tuple (cs : List V)
  | func (f : Nat × Nat) (cap : List V)

/-- A block of the call's own: not yet made; nothing more is known of it; a variable's cells; a slice's elements. 'frz': it is no longer written. -/
inductive Blk where
  | unborn
  | dead
  | box (frz : Bool) (cells : List V)
  | dat (frz : Bool) (sz : Nat) (els : List D)

abbrev Heap := List Blk
abbrev Tmps := List (Nat × V)

def D.cells : D → List D
  | .agg cs => cs
  | x => [x]

def V.cells : V → List V
  | .agg cs => cs
  | .d (.agg cs) => cs.map V.d
  | x => [x]

/-- The cells of an element of a block that is not dead. -/
def Blk.width : Blk → Option Nat
  | .box _ cells => some cells.length
  | .dat _ sz _ => some sz
  | _ => none

def hget : Heap → Nat → Blk
  | [], _ => .unborn
  | b :: _, 0 => b
  | _ :: h, n + 1 => hget h n

def hput : Heap → Nat → Blk → Heap
  | [], 0, b => [b]
  | [], n + 1, b => .unborn :: hput [] n b
  | _ :: h, 0, b => b :: h
  | x :: h, n + 1, b => x :: hput h n b

def tget : Tmps → Nat → V
  | [], _ => .d .undef
  | (s, v) :: r, t => if t = s then v else tget r t

/-- Shapes of types, as the machine needs them. -/
inductive Shape where
  | slice (e : Nat)
  | array (n e : Nat)
  | struct (fs : List (Nat × Nat))
  | int (k : IntKind)
  | bool
  | other

structure TI where
  agg : Bool
  cmp : List Bool
  size : Nat
  bytes : Nat
  shape : Shape
  zero : List V

abbrev Env := Nat → Option TI

/-- A constant. -/
def ofVal : Value → V
  | .bool b => .d (.bool b)
  | .int k n => .d (.int k n)
  | .pointer none => .d .nilp
  | .slice none 0 0 => .nils
  | .nilFunc => .d .nilf
  | _ => .d .undef

def ev (T : Tmps) : Operand → V
  | .tmp t => tget T t
  | .const v => ofVal v
  | .global _ => .d .undef
  | .func f => .func (f, 0) []

/-- What an operation does to the heap. -/
inductive Ch where
  | no
  | new (b : Blk)
  | upd (id : Nat) (b : Blk)
  | app (old : Nat) (b : Blk)

def Ch.on (c : Ch) (H : Heap) (nid : Nat) : Heap :=
  match c with
  | .no => H
  | .new b => hput H nid b
  | .upd id b => hput H id b
  | .app old b => hput (hput H old .dead) nid b

/-- Written over: xs from j on. -/
def splice {α : Type} (l : List α) (j : Nat) (xs : List α) : List α := l.take j ++ xs ++ l.drop (j + xs.length)

/-- Data without ids in it, as data. -/
def V.clo : V → Option D
  | .d x => some x
  | .nils => some (.vec [])
  | _ => none

def clos : List V → Option (List D)
  | [] => some []
  | v :: r => match v.clo, clos r with
    | some x, some xs => some (x :: xs)
    | _, _ => none

/-- What one cell can hold. -/
def V.one : V → Bool
  | .d (.agg _) | .d (.tuple _) | .d .undef | .agg _ | .tuple _ => false
  | _ => true

/-- An element written over from cell j on. -/
def D.over (e : D) (j : Nat) (ds : List D) : D :=
  match e with
  | .agg cs => .agg (splice cs j ds)
  | x => ds.headD x

def V.isAgg : V → Bool
  | .agg _ | .d (.agg _) => true
  | _ => false

def V.isUndef : V → Bool
  | .d .undef => true
  | _ => false

def intBin (op : BinOp) (k : IntKind) (a b : Int) : Option (Prop × D) :=
  match op with
  | .add => some (True, .int k (k.wrap (a + b)))
  | .sub => some (True, .int k (k.wrap (a - b)))
  | .mul => some (True, .int k (k.wrap (a * b)))
  | .quo => some (b ≠ 0, .int k (k.wrap (a.tdiv b)))
  | .rem => some (b ≠ 0, .int k (a.tmod b))
  | .eql => some (True, .bool (a == b))
  | .neq => some (True, .bool (a != b))
  | .lss => some (True, .bool (decide (a < b)))
  | .leq => some (True, .bool (decide (a ≤ b)))
  | .gtr => some (True, .bool (decide (a > b)))
  | .geq => some (True, .bool (decide (a ≥ b)))
  | .shr => some (0 ≤ b ∧ b ≤ k.bits, .int k (a / 2 ^ b.toNat))
  | .shl => some (0 ≤ b ∧ b ≤ k.bits, .int k (k.wrap (a * 2 ^ b.toNat)))
  | .and => some (True, .int k (bits .and k a b))
  | .or => some (True, .int k (bits .or k a b))
  | .xor => some (True, .int k (bits .xor k a b))
  | .andNot => some (True, .int k (bits .andNot k a b))

abbrev Res := Option (Prop × V × Ch)

def ok (v : V) : Res := some (True, v, .no)

/-- A load of a closed element. -/
def loadD (ti : TI) (e : D) (j : Nat) : Res :=
  if ti.agg then (if j + ti.size ≤ e.cells.length then ok (.d (.agg ((e.cells.drop j).take ti.size))) else none)
  else match e.cells[j]? with
    | some x => ok (.d x)
    | none => none

def structAt (ti : TI) (f : Nat) : Option (Nat × Nat) :=
  match ti.shape with
  | .struct fs => fs[f]?
  | _ => none

def D.scalarEq : Bool → D → D → Option Bool
  | false, .int k a, .int k' b => if k = k' then some (a == b) else none
  | true, .bool a, .bool b => some (a == b)
  | _, _, _ => none

/-- Are the cells of two structs alike? (Of each: is it a bool?) -/
def eqCells : List Bool → List D → List D → Option Bool
  | [], [], [] => some true
  | k :: ks, x :: xs, y :: ys => match D.scalarEq k x y, eqCells ks xs ys with
    | some a, some b => some (a && b)
    | _, _ => none
  | _, _, _ => none

/-- A value as closed data, if there is no id in it. -/
def V.toD : V → Option D
  | .d x => some x
  | .nils => some (.vec [])
  | .agg vs => match clos vs with
    | some ds => some (.agg ds)
    | none => none
  | _ => none

def sliceOf (E : Env) (t : Nat) : Option TI :=
  match E t with
  | some ti => match ti.shape with
    | .slice e => E e
    | _ => none
  | none => none

/-- The parts of a slice's literal: all of them, in order. -/
def partsD (T : Tmps) (sz : Nat) : Nat → List (Nat × Operand) → Option (List D)
  | _, [] => some []
  | i, (j, x) :: r => match (ev T x).toD, partsD T sz (i + 1) r with
    | some e, some es => if i = j && e.cells.length = sz && (ev T x).cells.all V.one then some (e :: es) else none
    | _, _ => none

/-- The parts of a struct's or an array's literal, over what stands there. -/
def partsV (T : Tmps) (place : Nat → Option (Nat × Nat)) : List (Nat × Operand) → List V → Option (List V)
  | [], cells => some cells
  | (i, x) :: r, cells => match place i with
    | some (off, size) =>
      if (ev T x).cells.length = size && off + size ≤ cells.length && !(ev T x).isUndef then partsV T place r (splice cells off (ev T x).cells) else none
    | none => none

def bound (T : Tmps) (d : Int) : Option Operand → Option Int
  | none => some d
  | some x => match ev T x with
    | .d (.int _ n) => some n
    | _ => none

def isPtr (H : Heap) : V → Bool
  | .ptr id _ _ => (hget H id).width.isSome
  | .d (.imm _ _) => true
  | .func _ _ => true
  | .d (.func _ _) => true
  | _ => false

/-- What is appended. -/
def elems (H : Heap) : V → Option (List D)
  | .nils => some []
  | .d (.vec els) => some els
  | .own id off len => match hget H id with
    | .dat _ _ els => some ((els.drop off).take len)
    | _ => none
  | _ => none

/-- May it be an element of so many cells? -/
def okEl (sz : Nat) (e : D) : Bool := e.cells.length == sz && e.cells.all (fun d => (V.d d).one)

/-- A type's zero element, as data. -/
def zeroD (ti : TI) : Option D :=
  match clos ti.zero with
  | some zs => if ti.agg then some (.agg zs) else (match zs with | [z] => if (V.d z).one then some z else none | _ => none)
  | none => none

def lenOf (H : Heap) : V → Option Int
  | .nils => some 0
  | .d (.vec els) => some els.length
  | .own id _ len => match hget H id with
    | .dat _ _ _ => some len
    | _ => none
  | _ => none

/-- One operation but a call: under a condition, a value, and a change of the heap. -/
def evop (E : Env) (T : Tmps) (H : Heap) (nid : Nat) : Op → Res
  | .move x | .assign x => if (ev T x).isUndef then none else ok (ev T x)
  | .pick c a b => match ev T c with
    | .d (.bool true) => if (ev T a).isUndef then none else ok (ev T a)
    | .d (.bool false) => if (ev T b).isUndef then none else ok (ev T b)
    | _ => none
  | .unOp .not _ x => match ev T x with
    | .d (.bool b) => ok (.d (.bool (!b)))
    | _ => none
  | .binOp op t x y _ => match ev T x, ev T y with
    | .d (.int k a), .d (.int k' b) => if k = k' then match intBin op k a b with
        | some (p, r) => some (p, .d r, .no)
        | none => none
      else none
    | .d (.bool a), .d (.bool b) => match op, E t with
      | .eql, some ti => match ti.shape with
        | .bool => ok (.d (.bool (a == b)))
        | _ => none
      | .neq, some ti => match ti.shape with
        | .bool => ok (.d (.bool (a != b)))
        | _ => none
      | _, _ => none
    | u, v => match E t, clos u.cells, clos v.cells with
      | some ti, some xs, some ys => if !ti.cmp.isEmpty && u.isAgg && v.isAgg then match op, eqCells ti.cmp xs ys with
          | .eql, some b => ok (.d (.bool b))
          | .neq, some b => ok (.d (.bool (!b)))
          | _, _ => none
        else none
      | _, _, _ => none
  | .extract x i => match ev T x with
    | .tuple cs => match cs[i]? with
      | some v => ok v
      | none => none
    | .d (.tuple cs) => match cs[i]? with
      | some v => ok (.d v)
      | none => none
    | _ => none
  | .alloc t => match E t with
    | some ti => some (True, .ptr nid 0 0, .new (.box false ti.zero))
    | none => none
  | .box t x => match E t with
    | some _ => if (ev T x).isUndef then none else some (True, .ptr nid 0 0, .new (.box false (ev T x).cells))
    | none => none
  | .load t x => match E t, ev T x with
    | some ti, .d (.imm e j) => loadD ti e j
    | some ti, .ptr id i j => match hget H id with
      | .box _ cells => if i = 0 then
          if ti.agg then (if j + ti.size ≤ cells.length then ok (.agg ((cells.drop j).take ti.size)) else none)
          else match cells[j]? with
            | some v => if v.isUndef then none else ok v
            | none => none
        else none
      | .dat _ _ els => match els[i]? with
        | some e => loadD ti e j
        | none => none
      | _ => none
    | _, _ => none
  | .store t x y => match E t, ev T x with
    | some ti, .ptr id i j =>
      if (ev T y).cells.length = ti.size && (ev T y).cells.all V.one then match hget H id with
        | .box false cells => if i = 0 && j + ti.size ≤ cells.length then some (True, .d .undef, .upd id (.box false (splice cells j (ev T y).cells))) else none
        | .dat false sz els => match els[i]?, clos (ev T y).cells with
          | some e, some ds => if 0 < ti.size && j + ti.size ≤ e.cells.length then some (True, .d .undef, .upd id (.dat false sz (els.set i (e.over j ds)))) else none
          | _, _ => none
        | _ => none
      else none
    | _, _ => none
  | .fieldAddr t x f => match E t, ev T x with
    | some ti, .d (.imm e j) => match structAt ti f with
      | some (off, sz) => if sz = 0 then none else ok (.d (.imm e (j + off)))
      | none => none
    | some ti, .ptr id i j => match structAt ti f with
      | some (off, sz) => if sz = 0 then none else if (hget H id).width.isSome then ok (.ptr id i (j + off)) else none
      | none => none
    | _, _ => none
  | .indexAddr t x ix => match E t, ev T x, ev T ix with
    | some ti, .d (.vec els), .d (.int _ n) => match ti.shape with
      | .slice et => match E et, els[n.toNat]? with
        | some eti, some e => if e.cells.length = eti.size then some (0 ≤ n, .d (.imm e 0), .no) else none
        | _, _ => none
      | _ => none
    | some ti, .own id off len, .d (.int _ n) => match ti.shape, hget H id with
      | .slice et, .dat _ sz _ => match E et with
        | some eti => if sz = eti.size then some (0 ≤ n ∧ n < len, .ptr id (off + n.toNat) 0, .no) else none
        | none => none
      | _, _ => none
    | some ti, .ptr id i j, .d (.int _ n) => match ti.shape with
      | .array m et => match E et with
        | some eti => if (hget H id).width.isSome then some (0 ≤ n ∧ n < m, .ptr id i (j + n.toNat * eti.size), .no) else none
        | none => none
      | _ => none
    | some ti, .d (.imm e j), .d (.int _ n) => match ti.shape with
      | .array m et => match E et with
        | some eti => some (0 ≤ n ∧ n < m, .d (.imm e (j + n.toNat * eti.size)), .no)
        | none => none
      | _ => none
    | _, _, _ => none
  | .slice t x lo hi none => match sliceOf E t, lenOf H (ev T x) with
    | some eti, some n => match bound T 0 lo, bound T n hi with
      | some l, some h => match ev T x with
        | .nils => some (l = 0 ∧ h = 0, .nils, .no)
        | .d (.vec els) => some (0 ≤ l ∧ l ≤ h ∧ h ≤ els.length ∧ ∀ e ∈ els, e.cells.length = eti.size, .d (.vec ((els.drop l.toNat).take (h - l).toNat)), .no)
        | .own id off len => match hget H id with
          | .dat _ sz _ => if sz = eti.size then some (0 ≤ l ∧ l ≤ h ∧ h ≤ len, .own id (off + l.toNat) (h - l).toNat, .no) else none
          | _ => none
        | _ => none
      | _, _ => none
    | _, _ => none
  | .buildSlice t n parts => match sliceOf E t with
    | some eti => match partsD T eti.size 0 parts.toList with
      | some els => if els.length = n && n * eti.size ≤ 1000 then some (True, .own nid 0 n, .new (.dat false eti.size els)) else none
      | none => none
    | none => none
  | .build t parts => match E t with
    | some ti => match ti.shape with
      | .struct fs => match partsV T (fun i => fs[i]?) parts.toList ti.zero with
        | some cells => ok (.agg cells)
        | none => none
      | .array m et => match E et with
        | some eti => match partsV T (fun i => some (i * eti.size, eti.size)) parts.toList ti.zero with
          | some cells => if m * eti.size = ti.size then ok (.agg cells) else none
          | none => none
        | none => none
      | _ => none
    | none => none
  | .makeFunc (.func f) first caps => if (first.toList ++ caps.toList).all (fun x => !(ev T x).isUndef) then ok (.func (f, first.size) ((first.toList ++ caps.toList).map (ev T))) else none
  | .nilCheck x => if isPtr H (ev T x) then ok (ev T x) else none
  | .convert s t x => match E s, E t, ev T x with
    | some _, some ti, .d (.int _ n) => match ti.shape with
      | .int k => ok (.d (.int k (k.wrap n)))
      | _ => none
    | _, _, _ => none
  | .call { callee := .builtin .len, args, argTypes } => match args.toList, argTypes.toList with
    | [x], [t] => match sliceOf E t, lenOf H (ev T x) with
      | some _, some n => ok (.d (.int .i64 n))
      | _, _ => none
    | _, _ => none
  | .call { callee := .builtin .append, args, argTypes } => match args.toList, argTypes.toList with
    | [x, y], [t, u] => match sliceOf E t, sliceOf E u, elems H (ev T y) with
      | some eti, some _, some ys => if t = u && 1 ≤ eti.bytes then match ev T x with
        | .nils => some (ys.length * eti.bytes ≤ 140737488355328 ∧ ∀ e ∈ ys, okEl eti.size e = true, .own nid 0 ys.length, .new (.dat false eti.size ys))
        | .own id off len => match hget H id with
          | .dat false sz els => if sz = eti.size then some ((len + ys.length) * eti.bytes ≤ 140737488355328 ∧ ∀ e ∈ ys, okEl eti.size e = true,
              .own nid 0 (len + ys.length), .app id (.dat false sz ((els.drop off).take len ++ ys))) else none
          | _ => none
        | _ => none
        else none
      | _, _, _ => none
    | _, _ => none
  | .call { callee := .builtin .min, args, .. } => match args.toList with
    | [x, y] => match ev T x, ev T y with
      | .d (.int k a), .d (.int _ b) => ok (.d (.int k (if b < a then b else a)))
      | _, _ => none
    | _ => none
  | .call { callee := .builtin .max, args, .. } => match args.toList with
    | [x, y] => match ev T x, ev T y with
      | .d (.int k a), .d (.int _ b) => ok (.d (.int k (if b > a then b else a)))
      | _, _ => none
    | _ => none
  | .call { callee := .builtin .clear, args, argTypes } => match args.toList, argTypes.toList with
    | [x], [t] => match sliceOf E t, ev T x with
      | some eti, .own id off len => match hget H id, zeroD eti with
        | .dat false sz els, some z => if sz = eti.size && okEl eti.size z then some (True, .d (.tuple []), .upd id (.dat false sz (els.take off ++ List.replicate len z ++ els.drop (off + len)))) else none
        | _, _ => none
      | _, _ => none
    | _, _ => none
  | _ => none

end Go.Proofs.Ythpapgbpmkgfeaa.AM
