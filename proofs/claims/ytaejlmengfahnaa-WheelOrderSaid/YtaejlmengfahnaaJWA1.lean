/- The texts Am1, Am2, Am3, Am4, Am5, Am6, Am7, Am8, Am9, Am10, Am41, Am11, Am12, Am13, joined. -/
import Derived.WalkKit
import Derived.MapKept
import Derived.Lib.AppendZerosOnto

set_option linter.all false
set_option linter.all false
namespace Go.Proofs.Ytaejlmengfahnaa.AM
open Go

inductive D where
  | bool (b : Bool)
  | int (k : IntKind) (n : Int)
  | agg (cs : List D)
  | tuple (cs : List D)
  | vec (els : List D)
  | imm (e : D) (j : Nat)
  | nilp
  | func (f : Nat × Nat) (cap : List D)
  | fmap (ks : List Int) (vs : List D)
  | nilf
  | undef

inductive V where
  | d (x : D)
  | nils
  | ptr (id i j : Nat)
  | own (id off len : Nat)
  | full (id off len c : Nat)
  | agg (cs : List V)
  | tuple (cs : List V)
  | func (f : Nat × Nat) (cap : List V)

inductive Blk where
  | unborn
  | dead
  | box (frz : Bool) (cells : List V)
  | dat (frz : Bool) (sz : Nat) (els : List D)

abbrev Heap := List Blk
abbrev Tmps := List (Nat × V)

def D.cells : D → List D
  | .agg cs => cs
  | x => [x]

def V.cells : V → List V
  | .agg cs => cs
  | .d (.agg cs) => cs.map V.d
  | x => [x]

def Blk.width : Blk → Option Nat
  | .box _ cells => some cells.length
  | .dat _ sz _ => some sz
  | _ => none

def hget : Heap → Nat → Blk
  | [], _ => .unborn
  | b :: _, 0 => b
  | _ :: h, n + 1 => hget h n

def hput : Heap → Nat → Blk → Heap
  | [], 0, b => [b]
  | [], n + 1, b => .unborn :: hput [] n b
  | _ :: h, 0, b => b :: h
  | x :: h, n + 1, b => x :: hput h n b

def tget : Tmps → Nat → V
  | [], _ => .d .undef
  | (s, v) :: r, t => if t = s then v else tget r t

inductive Shape where
  | slice (e : Nat)
  | array (n e : Nat)
  | struct (fs : List (Nat × Nat))
  | int (k : IntKind)
  | bool
  | map64
  | other

structure TI where
  agg : Bool
  cmp : List Bool
  size : Nat
  bytes : Nat
  shape : Shape
  zero : List V

abbrev Env := Nat → Option TI

def ofVal : Value → V
  | .bool b => .d (.bool b)
  | .int k n => .d (.int k n)
  | .pointer none => .d .nilp
  | .slice none 0 0 => .nils
  | .nilFunc => .d .nilf
  | _ => .d .undef

def ev (T : Tmps) : Operand → V
  | .tmp t => tget T t
  | .const v => ofVal v
  | .global _ => .d .undef
  | .func f => .func (f, 0) []

inductive Ch where
  | no
  | new (b : Blk)
  | upd (id : Nat) (b : Blk)
  | app (old : Nat) (b : Blk)

def Ch.on (c : Ch) (H : Heap) (nid : Nat) : Heap :=
  match c with
  | .no => H
  | .new b => hput H nid b
  | .upd id b => hput H id b
  | .app old b => hput (hput H old .dead) nid b

def splice {α : Type} (l : List α) (j : Nat) (xs : List α) : List α := l.take j ++ xs ++ l.drop (j + xs.length)

def V.clo : V → Option D
  | .d x => some x
  | .nils => some (.vec [])
  | _ => none

def clos : List V → Option (List D)
  | [] => some []
  | v :: r => match v.clo, clos r with
    | some x, some xs => some (x :: xs)
    | _, _ => none

def V.one : V → Bool
  | .d (.agg _) | .d (.tuple _) | .d .undef | .agg _ | .tuple _ => false
  | _ => true

def D.over (e : D) (j : Nat) (ds : List D) : D :=
  match e with
  | .agg cs => .agg (splice cs j ds)
  | x => ds.headD x

def V.isAgg : V → Bool
  | .agg _ | .d (.agg _) => true
  | _ => false

def V.isUndef : V → Bool
  | .d .undef => true
  | _ => false

def intBin (op : BinOp) (k : IntKind) (a b : Int) : Option (Prop × D) :=
  match op with
  | .add => some (True, .int k (k.wrap (a + b)))
  | .sub => some (True, .int k (k.wrap (a - b)))
  | .mul => some (True, .int k (k.wrap (a * b)))
  | .quo => some (b ≠ 0, .int k (k.wrap (a.tdiv b)))
  | .rem => some (b ≠ 0, .int k (a.tmod b))
  | .eql => some (True, .bool (a == b))
  | .neq => some (True, .bool (a != b))
  | .lss => some (True, .bool (decide (a < b)))
  | .leq => some (True, .bool (decide (a ≤ b)))
  | .gtr => some (True, .bool (decide (a > b)))
  | .geq => some (True, .bool (decide (a ≥ b)))
  | .shr => some (0 ≤ b ∧ b ≤ k.bits, .int k (a / 2 ^ b.toNat))
  | .shl => some (0 ≤ b ∧ b ≤ k.bits, .int k (k.wrap (a * 2 ^ b.toNat)))
  | .and => some (True, .int k (bits .and k a b))
  | .or => some (True, .int k (bits .or k a b))
  | .xor => some (True, .int k (bits .xor k a b))
  | .andNot => some (True, .int k (bits .andNot k a b))

abbrev Res := Option (Prop × V × Ch)

def ok (v : V) : Res := some (True, v, .no)

def loadD (ti : TI) (e : D) (j : Nat) : Res :=
  if ti.agg then (if j + ti.size ≤ e.cells.length then ok (.d (.agg ((e.cells.drop j).take ti.size))) else none)
  else match e.cells[j]? with
    | some x => ok (.d x)
    | none => none

def structAt (ti : TI) (f : Nat) : Option (Nat × Nat) :=
  match ti.shape with
  | .struct fs => fs[f]?
  | _ => none

def D.scalarEq : Bool → D → D → Option Bool
  | false, .int k a, .int k' b => if k = k' then some (a == b) else none
  | true, .bool a, .bool b => some (a == b)
  | _, _, _ => none

def eqCells : List Bool → List D → List D → Option Bool
  | [], [], [] => some true
  | k :: ks, x :: xs, y :: ys => match D.scalarEq k x y, eqCells ks xs ys with
    | some a, some b => some (a && b)
    | _, _ => none
  | _, _, _ => none

def V.toD : V → Option D
  | .d x => some x
  | .nils => some (.vec [])
  | .agg vs => match clos vs with
    | some ds => some (.agg ds)
    | none => none
  | .func f vs => match clos vs with
    | some ds => some (.func f ds)
    | none => none
  | _ => none

def sliceOf (E : Env) (t : Nat) : Option TI :=
  match E t with
  | some ti => match ti.shape with
    | .slice e => E e
    | _ => none
  | none => none

def partsD (T : Tmps) (sz : Nat) : Nat → List (Nat × Operand) → Option (List D)
  | _, [] => some []
  | i, (j, x) :: r => match (ev T x).toD, partsD T sz (i + 1) r with
    | some e, some es => if i = j && e.cells.length = sz && (ev T x).cells.all V.one then some (e :: es) else none
    | _, _ => none

def partsV (T : Tmps) (place : Nat → Option (Nat × Nat)) : List (Nat × Operand) → List V → Option (List V)
  | [], cells => some cells
  | (i, x) :: r, cells => match place i with
    | some (off, size) =>
      if (ev T x).cells.length = size && off + size ≤ cells.length && !(ev T x).isUndef then partsV T place r (splice cells off (ev T x).cells) else none
    | none => none

def findF : List Int → List D → Int → Option D
  | k :: ks, v :: vs, n => if n = k then some v else findF ks vs n
  | _, _, _ => none

def bound (T : Tmps) (d : Int) : Option Operand → Option Int
  | none => some d
  | some x => match ev T x with
    | .d (.int _ n) => some n
    | _ => none

def isPtr (H : Heap) : V → Bool
  | .ptr id _ _ => (hget H id).width.isSome
  | .d (.imm _ _) => true
  | .func _ _ => true
  | .d (.func _ _) => true
  | _ => false

def elems (H : Heap) : V → Option (List D)
  | .nils => some []
  | .d (.vec els) => some els
  | .own id off len => match hget H id with
    | .dat _ _ els => some ((els.drop off).take len)
    | _ => none
  | .full id off len _ => match hget H id with
    | .dat _ _ els => some ((els.drop off).take len)
    | _ => none
  | _ => none

def okEl (sz : Nat) (e : D) : Bool := e.cells.length == sz && e.cells.all (fun d => (V.d d).one)

def zeroD (ti : TI) : Option D :=
  match clos ti.zero with
  | some zs => if ti.agg then some (.agg zs) else (match zs with | [z] => if (V.d z).one then some z else none | _ => none)
  | none => none

def lenOf (H : Heap) : V → Option Int
  | .nils => some 0
  | .d (.vec els) => some els.length
  | .own id _ len => match hget H id with
    | .dat _ _ _ => some len
    | _ => none
  | .full id _ len _ => match hget H id with
    | .dat _ _ _ => some len
    | _ => none
  | _ => none

def evop (E : Env) (T : Tmps) (H : Heap) (nid : Nat) : Op → Res
  | .move x | .assign x => if (ev T x).isUndef then none else ok (ev T x)
  | .pick c a b => match ev T c with
    | .d (.bool true) => if (ev T a).isUndef then none else ok (ev T a)
    | .d (.bool false) => if (ev T b).isUndef then none else ok (ev T b)
    | _ => none
  | .unOp .not _ x => match ev T x with
    | .d (.bool b) => ok (.d (.bool (!b)))
    | _ => none
  | .binOp op t x y _ => match ev T x, ev T y with
    | .d (.int k a), .d (.int k' b) => if k = k' then match intBin op k a b with
        | some (p, r) => some (p, .d r, .no)
        | none => none
      else match op with
        | .shl => (match intBin .shl k a b with
          | some (p, r) => some (p, .d r, .no)
          | none => none)
        | .shr => (match intBin .shr k a b with
          | some (p, r) => some (p, .d r, .no)
          | none => none)
        | _ => none
    | .d (.bool a), .d (.bool b) => match op, E t with
      | .eql, some ti => match ti.shape with
        | .bool => ok (.d (.bool (a == b)))
        | _ => none
      | .neq, some ti => match ti.shape with
        | .bool => ok (.d (.bool (a != b)))
        | _ => none
      | _, _ => none
    | u, v => match E t, clos u.cells, clos v.cells with
      | some ti, some xs, some ys => if !ti.cmp.isEmpty && u.isAgg && v.isAgg then match op, eqCells ti.cmp xs ys with
          | .eql, some b => ok (.d (.bool b))
          | .neq, some b => ok (.d (.bool (!b)))
          | _, _ => none
        else none
      | _, _, _ => none
  | .extract x i => match ev T x with
    | .tuple cs => match cs[i]? with
      | some v => ok v
      | none => none
    | .d (.tuple cs) => match cs[i]? with
      | some v => ok (.d v)
      | none => none
    | _ => none
  | .alloc t => match E t with
    | some ti => some (True, .ptr nid 0 0, .new (.box false ti.zero))
    | none => none
  | .box t x => match E t with
    | some _ => if (ev T x).isUndef then none else some (True, .ptr nid 0 0, .new (.box false (ev T x).cells))
    | none => none
  | .load t x => match E t, ev T x with
    | some ti, .d (.imm e j) => loadD ti e j
    | some ti, .ptr id i j => match hget H id with
      | .box _ cells => if i = 0 then
          if ti.agg then (if j + ti.size ≤ cells.length then ok (.agg ((cells.drop j).take ti.size)) else none)
          else match cells[j]? with
            | some v => if v.isUndef then none else ok v
            | none => none
        else none
      | .dat _ _ els => match els[i]? with
        | some e => loadD ti e j
        | none => none
      | _ => none
    | _, _ => none
  | .store t x y => match E t, ev T x with
    | some ti, .ptr id i j =>
      if (ev T y).cells.length = ti.size && (ev T y).cells.all V.one then match hget H id with
        | .box false cells => if i = 0 && j + ti.size ≤ cells.length then some (True, .d .undef, .upd id (.box false (splice cells j (ev T y).cells))) else none
        | .dat false sz els => match els[i]?, clos (ev T y).cells with
          | some e, some ds => if 0 < ti.size && j + ti.size ≤ e.cells.length then some (True, .d .undef, .upd id (.dat false sz (els.set i (e.over j ds)))) else none
          | _, _ => none
        | _ => none
      else none
    | _, _ => none
  | .fieldAddr t x f => match E t, ev T x with
    | some ti, .d (.imm e j) => match structAt ti f with
      | some (off, sz) => if sz = 0 then none else ok (.d (.imm e (j + off)))
      | none => none
    | some ti, .ptr id i j => match structAt ti f with
      | some (off, sz) => if sz = 0 then none else if (hget H id).width.isSome then ok (.ptr id i (j + off)) else none
      | none => none
    | _, _ => none
  | .indexAddr t x ix => match E t, ev T x, ev T ix with
    | some ti, .d (.vec els), .d (.int _ n) => match ti.shape with
      | .slice et => match E et, els[n.toNat]? with
        | some eti, some e => if e.cells.length = eti.size then some (0 ≤ n, .d (.imm e 0), .no) else none
        | _, _ => none
      | _ => none
    | some ti, .own id off len, .d (.int _ n) => match ti.shape, hget H id with
      | .slice et, .dat _ sz _ => match E et with
        | some eti => if sz = eti.size then some (0 ≤ n ∧ n < len, .ptr id (off + n.toNat) 0, .no) else none
        | none => none
      | _, _ => none
    | some ti, .ptr id i j, .d (.int _ n) => match ti.shape with
      | .array m et => match E et with
        | some eti => if (hget H id).width.isSome then some (0 ≤ n ∧ n < m, .ptr id i (j + n.toNat * eti.size), .no) else none
        | none => none
      | _ => none
    | some ti, .d (.imm e j), .d (.int _ n) => match ti.shape with
      | .array m et => match E et with
        | some eti => some (0 ≤ n ∧ n < m, .d (.imm e (j + n.toNat * eti.size)), .no)
        | none => none
      | _ => none
    | _, _, _ => none
  | .slice t x lo hi none => match sliceOf E t, lenOf H (ev T x) with
    | some eti, some n => match bound T 0 lo, bound T n hi with
      | some l, some h => match ev T x with
        | .nils => some (l = 0 ∧ h = 0, .nils, .no)
        | .d (.vec els) => some (0 ≤ l ∧ l ≤ h ∧ h ≤ els.length ∧ ∀ e ∈ els, e.cells.length = eti.size, .d (.vec ((els.drop l.toNat).take (h - l).toNat)), .no)
        | .own id off len => match hget H id with
          | .dat _ sz _ => if sz = eti.size then some (0 ≤ l ∧ l ≤ h ∧ h ≤ len, .own id (off + l.toNat) (h - l).toNat, .no) else none
          | _ => none
        | .full id off len c => match hget H id with
          | .dat _ sz els => if sz = eti.size then some (0 ≤ l ∧ l ≤ h ∧ h ≤ c ∧ off + h ≤ els.length, .full id (off + l.toNat) (h - l).toNat (c - l.toNat), .no) else none
          | _ => none
        | _ => none
      | _, _ => none
    | _, _ => none
  | .buildSlice t n parts => match sliceOf E t with
    | some eti => match partsD T eti.size 0 parts.toList with
      | some els => if els.length = n && n * eti.size ≤ 1000 then some (True, .own nid 0 n, .new (.dat false eti.size els)) else none
      | none => none
    | none => none
  | .makeSlice t l c => match sliceOf E t, ev T l, ev T c with
    | some eti, .d (.int _ n), .d (.int _ m) => match zeroD eti with
      | some z => if okEl eti.size z then some (0 ≤ n ∧ m = n ∧ (eti.bytes : Int) * n ≤ 281474976710656 ∧ n ≤ 9223372036854775807, .own nid 0 n.toNat, .new (.dat false eti.size (List.replicate n.toNat z))) else none
      | none => none
    | _, _, _ => none
  | .index t x ix => match E t, ev T x, ev T ix with
    | some ti, u, .d (.int _ n) => match ti.shape with
      | .array m et => match E et with
        | some eti => if u.isAgg && u.cells.length = m * eti.size && 0 < eti.size then
            (if eti.agg then some (0 ≤ n ∧ n < m, .agg ((u.cells.drop (n.toNat * eti.size)).take eti.size), .no)
             else (if eti.size = 1 then some (0 ≤ n ∧ n < m, u.cells.getD n.toNat (.d .undef), .no) else none)) else none
        | none => none
      | _ => none
    | _, _, _ => none
  | .lookup t x ix false => match E t, ev T x, ev T ix with
    | some ti, .d (.fmap ks vs), .d (.int .i64 n) => match ti.shape, findF ks vs n with
      | .map64, some d => ok (.d d)
      | _, _ => none
    | _, _, _ => none
  | .build t parts => match E t with
    | some ti => match ti.shape with
      | .struct fs => match partsV T (fun i => fs[i]?) parts.toList ti.zero with
        | some cells => ok (.agg cells)
        | none => none
      | .array m et => match E et with
        | some eti => match partsV T (fun i => some (i * eti.size, eti.size)) parts.toList ti.zero with
          | some cells => if m * eti.size = ti.size then ok (.agg cells) else none
          | none => none
        | none => none
      | _ => none
    | none => none
  | .makeFunc (.func f) first caps => if (first.toList ++ caps.toList).all (fun x => !(ev T x).isUndef) then ok (.func (f, first.size) ((first.toList ++ caps.toList).map (ev T))) else none
  | .nilCheck x => if isPtr H (ev T x) then ok (ev T x) else none
  | .convert s t x => match E s, E t, ev T x with
    | some _, some ti, .d (.int _ n) => match ti.shape with
      | .int k => ok (.d (.int k (k.wrap n)))
      | _ => none
    | _, _, _ => none
  | .call { callee := .builtin .len, args, argTypes } => match args.toList, argTypes.toList with
    | [x], [t] => match sliceOf E t, lenOf H (ev T x) with
      | some _, some n => ok (.d (.int .i64 n))
      | _, _ => none
    | _, _ => none
  | .call { callee := .builtin .append, args, argTypes } => match args.toList, argTypes.toList with
    | [x, y], [t, u] => match sliceOf E t, sliceOf E u, elems H (ev T y) with
      | some eti, some _, some ys => if t = u && 1 ≤ eti.bytes then match ev T x with
        | .nils => some (ys.length * eti.bytes ≤ 140737488355328 ∧ ∀ e ∈ ys, okEl eti.size e = true, .own nid 0 ys.length, .new (.dat false eti.size ys))
        | .own id off len => match hget H id with
          | .dat false sz els => if sz = eti.size then some ((len + ys.length) * eti.bytes ≤ 140737488355328 ∧ ∀ e ∈ ys, okEl eti.size e = true,
              .own nid 0 (len + ys.length), .app id (.dat false sz ((els.drop off).take len ++ ys))) else none
          | _ => none
        | _ => none
        else none
      | some eti, none, _ => match E u, ev T x, ev T y with
        | some ui, .full id off len c, .d (.int _ n) => match ui.shape, hget H id, zeroD eti with
          | .int _, .dat _ sz els, some z => if sz = eti.size && okEl eti.size z && 1 ≤ eti.bytes && 0 < eti.size then some (0 < n ∧ c < len + n.toNat ∧ (len + n.toNat) * eti.bytes ≤ 140737488355328, .own nid 0 (len + n.toNat), .new (.dat false sz ((els.drop off).take len ++ List.replicate n.toNat z))) else none
          | _, _, _ => none
        | _, _, _ => none
      | _, _, _ => none
    | _, _ => none
  | .call { callee := .builtin .min, args, .. } => match args.toList with
    | [x, y] => match ev T x, ev T y with
      | .d (.int k a), .d (.int _ b) => ok (.d (.int k (if b < a then b else a)))
      | _, _ => none
    | _ => none
  | .call { callee := .builtin .max, args, .. } => match args.toList with
    | [x, y] => match ev T x, ev T y with
      | .d (.int k a), .d (.int _ b) => ok (.d (.int k (if b > a then b else a)))
      | _, _ => none
    | [x, y, z] => match ev T x, ev T y, ev T z with
      | .d (.int k a), .d (.int _ b), .d (.int _ c) => ok (.d (.int k (if c > (if b > a then b else a) then c else (if b > a then b else a))))
      | _, _, _ => none
    | _ => none
  | .call { callee := .builtin .cap, args, argTypes } => match args.toList, argTypes.toList with
    | [x], [t] => match sliceOf E t, ev T x with
      | some _, .full _ _ _ c => ok (.d (.int .i64 c))
      | _, _ => none
    | _, _ => none
  | .call { callee := .builtin .copy, args, argTypes } => match args.toList, argTypes.toList with
    | [x, y], [t, u] => match sliceOf E t, sliceOf E u, ev T x, elems H (ev T y) with
      | some eti, some _, .own id off len, some ys => match hget H id with
        | .dat false sz els => if sz = eti.size then some (∀ e ∈ ys.take len, okEl eti.size e = true, .d (.int .i64 ((min ys.length len : Nat) : Int)), .upd id (.dat false sz (splice els off (ys.take len)))) else none
        | _ => none
      | some eti, some _, .full id off len _, some ys => match hget H id with
        | .dat false sz els => if sz = eti.size then some (∀ e ∈ ys.take len, okEl eti.size e = true, .d (.int .i64 ((min ys.length len : Nat) : Int)), .upd id (.dat false sz (splice els off (ys.take len)))) else none
        | _ => none
      | _, _, _, _ => none
    | _, _ => none
  | .call { callee := .builtin .clear, args, argTypes } => match args.toList, argTypes.toList with
    | [x], [t] => match sliceOf E t, ev T x with
      | some eti, .own id off len => match hget H id, zeroD eti with
        | .dat false sz els, some z => if sz = eti.size && okEl eti.size z then some (True, .d (.tuple []), .upd id (.dat false sz (els.take off ++ List.replicate len z ++ els.drop (off + len)))) else none
        | _, _ => none
      | _, _ => none
    | _, _ => none
  | _ => none

end Go.Proofs.Ytaejlmengfahnaa.AM

set_option linter.all false
namespace Go.Proofs.Ytaejlmengfahnaa.AM
open Go

structure Loc where
  blk : Nat
  off : Nat
  n : Nat

inductive RD (S : Nat → Prop) (w : World) : D → Value → Prop
  | bool (b : Bool) : RD S w (.bool b) (.bool b)
  | int (k : IntKind) (n : Int) : RD S w (.int k n) (.int k n)
  | nilp : RD S w .nilp (.pointer none)
  | nilf : RD S w .nilf .nilFunc
  | undef (c : Value) : RD S w .undef c
  | agg (ds : List D) (cs : List Value) : ds.length = cs.length → (∀ (i : Nat) (d : D) (c : Value), ds[i]? = some d → cs[i]? = some c → RD S w d c) → RD S w (.agg ds) (.agg cs.toArray)
  | tuple (ds : List D) (cs : List Value) : ds.length = cs.length → (∀ (i : Nat) (d : D) (c : Value), ds[i]? = some d → cs[i]? = some c → RD S w d c) → RD S w (.tuple ds) (.tuple cs.toArray)
  | func (f : Nat × Nat) (ds : List D) (cs : List Value) : ds.length = cs.length → (∀ (i : Nat) (d : D) (c : Value), ds[i]? = some d → cs[i]? = some c → RD S w d c) → RD S w (.func f ds) (.func (.func f.1) (cs.take f.2).toArray (cs.drop f.2).toArray)
  | fmap (ks : List Int) (vs : List D) (B : Nat) (es : List MapEntry) (clock : Nat) : S B → w.heap[B]? = some (.map es.toArray clock) → ks.length = es.length → vs.length = es.length →
      (∀ (i : Nat) (k : Int) (e : MapEntry), ks[i]? = some k → es[i]? = some e → e.key = .int .i64 k) → (∀ (i : Nat) (d : D) (e : MapEntry), vs[i]? = some d → es[i]? = some e → RD S w d e.val) → RD S w (.fmap ks vs) (.map (some B))
  | vec (els : List D) (a : Option Addr) (cap B o sz : Nat) (m : Nat → Value) : els.length ≤ cap → (els ≠ [] → a = some ⟨B, o, none⟩) → (∀ e ∈ els, e.cells.length = sz) →
      (∀ (i : Nat) (e : D) (k : Nat) (x : D), els[i]? = some e → e.cells[k]? = some x → S B ∧ w.cell? ⟨B, o + (i * sz + k), none⟩ = some (m (i * sz + k))) →
      (∀ (i : Nat) (e : D) (k : Nat) (x : D), els[i]? = some e → e.cells[k]? = some x → RD S w x (m (i * sz + k))) → RD S w (.vec els) (.slice a els.length cap)
  | imm (e : D) (j B o : Nat) (m : Nat → Value) : (∀ (k : Nat) (x : D), e.cells[k]? = some x → S B ∧ w.cell? ⟨B, o + k, none⟩ = some (m k)) →
      (∀ (k : Nat) (x : D), e.cells[k]? = some x → RD S w x (m k)) → RD S w (.imm e j) (.pointer (some ⟨B, o + j, none⟩))

def KeepS (S : Nat → Prop) (w : World) (S' : Nat → Prop) (w' : World) : Prop := ∀ B, S B → B < w.heap.size → S' B ∧ w'.heap[B]? = w.heap[B]?

theorem KeepS.refl (S : Nat → Prop) (w : World) : KeepS S w S w := fun _ h _ => ⟨h, rfl⟩

theorem KeepS.cell {S S' : Nat → Prop} {w w' : World} (h : KeepS S w S' w') {B i : Nat} {v : Value} (hs : S B) (hc : w.cell? ⟨B, i, none⟩ = some v) : S' B ∧ w'.cell? ⟨B, i, none⟩ = some v := by
  have hlt := World.block_lt_of_cell? w _ hc
  obtain ⟨h1, h2⟩ := h B hs hlt
  exact ⟨h1, (World.cell?_of_block (w := w) (w' := w') (a := ⟨B, i, none⟩) h2).trans hc⟩

theorem RD.keep {S S' : Nat → Prop} {w w' : World} (hk : KeepS S w S' w') {x : D} {c : Value} (h : RD S w x c) : RD S' w' x c := by
  induction h with
  | bool b => exact .bool b
  | int k n => exact .int k n
  | nilp => exact .nilp
  | nilf => exact .nilf
  | undef c => exact .undef c
  | agg ds cs hl _ ih => exact .agg ds cs hl ih
  | tuple ds cs hl _ ih => exact .tuple ds cs hl ih
  | func f ds cs hl _ ih => exact .func f ds cs hl ih
  | fmap ks vs B es clock hs hb h1 h2 h3 _ ih =>
    obtain ⟨q1, q2⟩ := hk B hs (Array.getElem?_eq_some_iff.1 hb).1
    exact .fmap ks vs B es clock q1 (q2.trans hb) h1 h2 h3 ih
  | vec els a cap B o sz m h1 h2 h3 h4 _ ih => exact .vec els a cap B o sz m h1 h2 h3 (fun i e k x he hx => hk.cell (h4 i e k x he hx).1 (h4 i e k x he hx).2) ih
  | imm e j B o m h1 _ ih => exact .imm e j B o m (fun k x hx => hk.cell (h1 k x hx).1 (h1 k x hx).2) ih

inductive RV (φ : Nat → Option Loc) (S : Nat → Prop) (H : Heap) (w : World) : V → Value → Prop
  | d (x : D) (c : Value) : RD S w x c → RV φ S H w (.d x) c
  | nils : RV φ S H w .nils (.slice none 0 0)
  | ptr (id i j : Nat) (A : Option Addr) : hget H id ≠ .unborn → (∀ sz, (hget H id).width = some sz → ∃ L, φ id = some L ∧ A = some ⟨L.blk, L.off + i * sz + j, none⟩) → RV φ S H w (.ptr id i j) (.pointer A)
  | own (id off len l cap : Nat) (A : Option Addr) : hget H id ≠ .unborn → (∀ fz sz els, hget H id = .dat fz sz els → off + len ≤ els.length ∧ l = len ∧ len ≤ cap ∧
      (cap = 0 ∨ ∃ L, φ id = some L ∧ A = some ⟨L.blk, L.off + off * sz, none⟩ ∧ L.off + (off + cap) * sz ≤ L.n)) → RV φ S H w (.own id off len) (.slice A l cap)
  | full (id off len c : Nat) (A : Option Addr) : hget H id ≠ .unborn → (∀ fz sz els, hget H id = .dat fz sz els → off + len ≤ els.length ∧ len ≤ c ∧
      (c = 0 ∨ ∃ L, φ id = some L ∧ A = some ⟨L.blk, L.off + off * sz, none⟩ ∧ L.off + (off + c) * sz ≤ L.n)) → RV φ S H w (.full id off len c) (.slice A len c)
  | agg (vs : List V) (cs : List Value) : vs.length = cs.length → (∀ (i : Nat) (v : V) (c : Value), vs[i]? = some v → cs[i]? = some c → RV φ S H w v c) → RV φ S H w (.agg vs) (.agg cs.toArray)
  | tuple (vs : List V) (cs : List Value) : vs.length = cs.length → (∀ (i : Nat) (v : V) (c : Value), vs[i]? = some v → cs[i]? = some c → RV φ S H w v c) → RV φ S H w (.tuple vs) (.tuple cs.toArray)
  | func (f : Nat × Nat) (vs : List V) (cs : List Value) : vs.length = cs.length → (∀ (i : Nat) (v : V) (c : Value), vs[i]? = some v → cs[i]? = some c → RV φ S H w v c) → RV φ S H w (.func f vs) (.func (.func f.1) (cs.take f.2).toArray (cs.drop f.2).toArray)

theorem RV.unfull {φ : Nat → Option Loc} {S : Nat → Prop} {H : Heap} {w : World} {id off len k : Nat} {c : Value} (h : RV φ S H w (.full id off len k) c) : RV φ S H w (.own id off len) c := by
  cases h with | full _ _ _ _ A hu hh =>
    exact .own id off len len k A hu (fun fz sz els hg => by
      obtain ⟨h1, h2, h3⟩ := hh fz sz els hg
      exact ⟨h1, rfl, h2, h3⟩)

def SameShape : Blk → Blk → Prop
  | .box _ a, .box _ b => a.length = b.length
  | .dat _ s a, .dat _ t b => s = t ∧ a.length ≤ b.length
  | _, _ => False

structure Step (φ : Nat → Option Loc) (S : Nat → Prop) (H : Heap) (w : World) (φ' : Nat → Option Loc) (S' : Nat → Prop) (H' : Heap) (w' : World) : Prop where
  keepS : KeepS S w S' w'
  keepH : ∀ id, hget H id ≠ .unborn → hget H' id = .dead ∨ (SameShape (hget H id) (hget H' id) ∧ φ' id = φ id)

theorem SameShape.refl {b : Blk} (h : b ≠ .unborn) (hd : b ≠ .dead) : SameShape b b := by
  cases b <;> simp_all [SameShape]

theorem Step.refl {φ : Nat → Option Loc} {S : Nat → Prop} {H : Heap} {w : World} : Step φ S H w φ S H w :=
  ⟨.refl _ _, fun id h => by
    by_cases hd : hget H id = .dead
    · exact .inl hd
    · exact .inr ⟨.refl h hd, rfl⟩⟩

section
variable {φ φ' : Nat → Option Loc} {S S' : Nat → Prop} {H H' : Heap} {w w' : World}

theorem RV.step (hs : Step φ S H w φ' S' H' w') {v : V} {c : Value} (h : RV φ S H w v c) : RV φ' S' H' w' v c := by
  induction h with
  | d x c hx => exact .d x c (hx.keep hs.keepS)
  | nils => exact .nils
  | ptr id i j A hu h =>
    rcases hs.keepH id hu with hd | ⟨hsh, hφ⟩
    · exact .ptr id i j A (by rw [hd]; simp) (fun sz hw => by rw [hd] at hw; simp [Blk.width] at hw)
    · refine .ptr id i j A (fun e => by rw [e] at hsh; cases hb : hget H id <;> simp [hb, SameShape] at hsh) (fun sz hw => ?_)
      have : (hget H id).width = some sz := by
        cases hb : hget H id <;> cases hb' : hget H' id <;> simp [hb, hb', SameShape] at hsh <;> simp [hb', Blk.width] at hw <;> simp [Blk.width] <;> omega
      rw [hφ]
      exact h sz this
  | own id off len l cap A hu h =>
    rcases hs.keepH id hu with hd | ⟨hsh, hφ⟩
    · exact .own id off len l cap A (by rw [hd]; simp) (fun fz sz els hw => by rw [hd] at hw; cases hw)
    · refine .own id off len l cap A (fun e => by rw [e] at hsh; cases hb : hget H id <;> simp [hb, SameShape] at hsh) (fun fz sz els hw => ?_)
      rw [hw] at hsh
      cases hb : hget H id <;> simp [hb, SameShape] at hsh
      rename_i fz0 sz0 els0
      obtain ⟨rfl, hle⟩ := hsh
      obtain ⟨h1, h2⟩ := h fz0 sz0 els0 hb
      rw [hφ]
      exact ⟨by omega, h2⟩
  | full id off len c A hu h =>
    rcases hs.keepH id hu with hd | ⟨hsh, hφ⟩
    · exact .full id off len c A (by rw [hd]; simp) (fun fz sz els hw => by rw [hd] at hw; cases hw)
    · refine .full id off len c A (fun e => by rw [e] at hsh; cases hb : hget H id <;> simp [hb, SameShape] at hsh) (fun fz sz els hw => ?_)
      rw [hw] at hsh
      cases hb : hget H id <;> simp [hb, SameShape] at hsh
      rename_i fz0 sz0 els0
      obtain ⟨rfl, hle⟩ := hsh
      obtain ⟨h1, h2⟩ := h fz0 sz0 els0 hb
      rw [hφ]
      exact ⟨by omega, h2⟩
  | agg vs cs hl _ ih => exact .agg vs cs hl ih
  | tuple vs cs hl _ ih => exact .tuple vs cs hl ih
  | func f vs cs hl _ ih => exact .func f vs cs hl ih
end

structure At (w : World) (L : Loc) (cs : Array Value) (t : TypeId) : Prop where
  heap : w.heap[L.blk]? = some (.cells cs t (0, 0))
  size : L.n = cs.size

def BR (φ : Nat → Option Loc) (S : Nat → Prop) (H : Heap) (w : World) (id : Nat) : Blk → Prop
  | .unborn => φ id = none
  | .dead => φ id = none
  | .box fz cells => ∃ L cs t, φ id = some L ∧ L.off = 0 ∧ At w L cs t ∧ cells.length = cs.size ∧ (∀ (k : Nat) (v : V) (c : Value), cells[k]? = some v → cs[k]? = some c → RV φ S H w v c) ∧ (S L.blk ↔ fz = true)
  | .dat fz sz els => (els = [] ∧ φ id = none) ∨ ∃ L cs t, φ id = some L ∧ At w L cs t ∧ (∀ e ∈ els, e.cells.length = sz) ∧ L.off + els.length * sz ≤ cs.size ∧
      (∀ (i : Nat) (e : D) (k : Nat) (x : D), els[i]? = some e → e.cells[k]? = some x → ∃ c, cs[L.off + (i * sz + k)]? = some c ∧ RD S w x c) ∧ (S L.blk ↔ fz = true)

structure Ctx where
  n0 : Nat
  O : Nat → Prop
  S0 : Nat → Prop

structure HRel (C : Ctx) (φ : Nat → Option Loc) (S : Nat → Prop) (H : Heap) (w : World) : Prop where
  n0 : C.n0 ≤ w.heap.size
  own : ∀ id L, φ id = some L → C.O L.blk ∨ C.n0 ≤ L.blk
  vis : ∀ B, S B → C.S0 B ∨ C.O B ∨ C.n0 ≤ B
  inj : ∀ id id' L L', φ id = some L → φ id' = some L' → L.blk = L'.blk → id = id'
  blk : ∀ id, BR φ S H w id (hget H id)
  low : ∀ B, S B → B < w.heap.size

structure Kp (C : Ctx) (w w' : World) : Prop where
  os : w'.os = w.os
  tape : w'.tape = w.tape
  output : w'.output = w.output
  size : w.heap.size ≤ w'.heap.size
  block : ∀ B, B < C.n0 → ¬ C.O B → w'.heap[B]? = w.heap[B]?

theorem Kp.refl {C : Ctx} {w : World} : Kp C w w := ⟨rfl, rfl, rfl, Nat.le_refl _, fun _ _ _ => rfl⟩
theorem Kp.trans {C : Ctx} {w w' w'' : World} (h : Kp C w w') (h' : Kp C w' w'') : Kp C w w'' :=
  ⟨h'.os.trans h.os, h'.tape.trans h.tape, h'.output.trans h.output, Nat.le_trans h.size h'.size, fun B hb ho => (h'.block B hb ho).trans (h.block B hb ho)⟩

end Go.Proofs.Ytaejlmengfahnaa.AM

set_option linter.all false
namespace Go.Proofs.Ytaejlmengfahnaa.AM
open Go Go.RowKit

def TRel (φ : Nat → Option Loc) (S : Nat → Prop) (H : Heap) (w : World) (T : Tmps) (a : Act) : Prop :=
  ∀ t, RV φ S H w (tget T t) (a.tmps.getD t undef)

section
variable {P : Program} {E : Env} {C : Ctx} {φ : Nat → Option Loc} {S : Nat → Prop} {H : Heap} {w : World} {T : Tmps} {a : Act}

theorem ofVal_rel (c : Value) : RV φ S H w (ofVal c) c := by
  unfold ofVal
  split
  · exact .d _ _ (.bool _)
  · exact .d _ _ (.int _ _)
  · exact .d _ _ .nilp
  · exact .nils
  · exact .d _ _ .nilf
  · exact .d _ _ (.undef _)

theorem ev_rel (hT : TRel φ S H w T a) (x : Operand) : RV φ S H w (ev T x) (a.eval x) := by
  cases x with
  | tmp t => exact hT t
  | const v => exact ofVal_rel v
  | global g => exact .d _ _ (.undef _)
  | func f => exact .func (f, 0) [] [] rfl (fun i v c h => by simp at h)

theorem TRel.step {φ' : Nat → Option Loc} {S' : Nat → Prop} {H' : Heap} {w' : World} (hT : TRel φ S H w T a) (hs : Step φ S H w φ' S' H' w') : TRel φ' S' H' w' T a :=
  fun t => (hT t).step hs

def tput (n : Nat) (T : Tmps) (dst : Option Nat) (v : V) : Tmps :=
  match dst with
  | some t => if t < n then (t, v) :: T else T
  | none => T

theorem TRel.put (hT : TRel φ S H w T a) {v : V} {c : Value} (hv : RV φ S H w v c) (dst : Option Nat) : TRel φ S H w (tput a.tmps.size T dst v) (a.put dst c) := by
  intro t
  cases dst with
  | none => exact hT t
  | some s =>
    simp only [tput, Act.put]
    by_cases hs : s < a.tmps.size
    · simp only [hs, if_true, tget]
      by_cases ht : t = s
      · subst ht; simp only [if_true]
        have : (a.tmps.setIfInBounds t c).getD t undef = c := by simp [hs]
        rw [this]; exact hv
      · simp only [ht, if_false]
        have : (a.tmps.setIfInBounds s c).getD t undef = a.tmps.getD t undef := by
          simp only [Array.getD_eq_getD_getElem?, Array.getElem?_setIfInBounds]
          rw [if_neg (fun h => ht h.symm)]
        rw [this]; exact hT t
    · simp only [hs, if_false]
      have : a.tmps.setIfInBounds s c = a.tmps := Array.setIfInBounds_eq_of_size_le (by omega)
      rw [this]; exact hT t

theorem put_size (a : Act) (dst : Option Nat) (c : Value) : (a.put dst c).tmps.size = a.tmps.size := by
  cases dst <;> simp [Act.put]

def ShapeOk (P : Program) (d : TypeDesc) : Shape → Prop
  | .slice e => d = .slice e
  | .array n e => d = .array n e
  | .struct fs => ∃ fields, d = .struct fields ∧ fs.length = fields.size ∧ ∀ (i : Nat) (f : Field), fields[i]? = some f → ∃ j, P.info? f.type = some j ∧ fs[i]? = some (f.offset, j.size)
  | .int k => d = .int k
  | .bool => d = .bool
  | .map64 => ∃ kt e, d = .map kt e ∧ P.underlying kt = some (.int .i64)
  | .other => True

def aggDesc : TypeDesc → Bool
  | .struct _ | .array .. => true
  | _ => false

def CmpOk (P : Program) (t : Nat) (d : TypeDesc) (cmp : List Bool) : Prop :=
  P.eqGuardType P.depth t = false ∧ P.stoodInHeld t = false ∧ ∃ fields, d = .struct fields ∧ fields.size = cmp.length ∧
    ∀ (i : Nat) (f : Field), fields[i]? = some f → f.name ≠ "_" ∧ f.offset = i ∧ ((cmp[i]? = some false ∧ ∃ k, P.underlying f.type = some (.int k)) ∨ (cmp[i]? = some true ∧ P.underlying f.type = some .bool))

structure TOk (P : Program) (t : Nat) (ti : TI) : Prop where
  facts : ∃ i z d, P.info? t = some i ∧ i.size = ti.size ∧ i.bytes = ti.bytes ∧ i.zero = some z ∧ ti.zero = z.cells.toList.map ofVal ∧ z.cells.size = ti.size ∧
    P.underlying t = some d ∧ ti.agg = aggDesc d ∧ ShapeOk P d ti.shape ∧ (ti.cmp ≠ [] → CmpOk P t d ti.cmp)

def EOk (P : Program) (E : Env) : Prop := ∀ t ti, E t = some ti → TOk P t ti

theorem run_isAgg' {t : Nat} {d : TypeDesc} (h : P.underlying t = some d) : (isAgg t).run P w = .ok (aggDesc d) w := by
  simp only [isAgg, Sem.run_bind, run_underlying h, Result.andThen_ok]
  cases d <;> simp [aggDesc]

theorem run_sizeOf' {t : Nat} {i : TypeInfo} (h : P.info? t = some i) : (sizeOf t).run P w = .ok i.size w := by
  simp [sizeOf, typeInfo, h]

def Gives (P : Program) (o : Oper) (a : Act) (w : World) (c : Value) (w' : World) : Prop :=
  (execOp a.eval o).run P w = .ok (.value c) w' ∨ ((execOp a.eval o).run P w = .ok .skip w' ∧ c = undef)

def Out (P : Program) (C : Ctx) (φ : Nat → Option Loc) (S : Nat → Prop) (H : Heap) (w : World) (o : Oper) (a : Act) (v : V) (H' : Heap) : Prop :=
  ∃ c w' φ', Gives P o a w c w' ∧ RV φ' S H' w' v c ∧ HRel C φ' S H' w' ∧ Step φ S H w φ' S H' w' ∧ Kp C w w'

theorem Out.quiet {o : Oper} {v : V} {c : Value} (hH : HRel C φ S H w) (hr : (execOp a.eval o).run P w = .ok (.value c) w) (hv : RV φ S H w v c) : Out P C φ S H w o a v H :=
  ⟨c, w, φ, .inl hr, hv, hH, .refl, .refl⟩

theorem RV.bool_inv {b : Bool} {c : Value} (h : RV φ S H w (.d (.bool b)) c) : c = .bool b := by cases h with | d x c h => cases h; rfl
theorem RV.int_inv {k : IntKind} {n : Int} {c : Value} (h : RV φ S H w (.d (.int k n)) c) : c = .int k n := by cases h with | d x c h => cases h; rfl

theorem RV.tuple_inv {vs : List V} {c : Value} (h : RV φ S H w (.tuple vs) c) : ∃ cs : List Value, c = .tuple cs.toArray ∧ vs.length = cs.length ∧ ∀ (i : Nat) (v : V) (c : Value), vs[i]? = some v → cs[i]? = some c → RV φ S H w v c := by
  cases h with | tuple _ cs hl h => exact ⟨cs, rfl, hl, h⟩
theorem RV.dtuple_inv {ds : List D} {c : Value} (h : RV φ S H w (.d (.tuple ds)) c) : ∃ cs : List Value, c = .tuple cs.toArray ∧ ds.length = cs.length ∧ ∀ (i : Nat) (d : D) (c : Value), ds[i]? = some d → cs[i]? = some c → RD S w d c := by
  cases h with | d x c h => cases h with | tuple _ cs hl h => exact ⟨cs, rfl, hl, h⟩

theorem out_move {o : Oper} {x : Operand} (ho : o.op = .move x ∨ o.op = .assign x) (hH : HRel C φ S H w) (hT : TRel φ S H w T a) : Out P C φ S H w o a (ev T x) H := by
  refine .quiet hH (c := a.eval x) ?_ (ev_rel hT x)
  rcases ho with ho | ho <;> simp [execOp, ho]

theorem out_pick {o : Oper} {c x y : Operand} {t : Bool} (ho : o.op = .pick c x y) (hc : ev T c = .d (.bool t)) (hH : HRel C φ S H w) (hT : TRel φ S H w T a) :
    Out P C φ S H w o a (ev T (if t then x else y)) H := by
  have h := ev_rel hT c
  rw [hc] at h
  refine .quiet hH (c := a.eval (if t then x else y)) ?_ (ev_rel hT _)
  simp only [execOp, ho]
  rw [h.bool_inv]
  cases t <;> simp [asBool]

theorem out_not {o : Oper} {ty : Nat} {x : Operand} {b : Bool} (ho : o.op = .unOp .not ty x) (hx : ev T x = .d (.bool b)) (hH : HRel C φ S H w) (hT : TRel φ S H w T a) :
    Out P C φ S H w o a (.d (.bool (!b))) H := by
  have h := ev_rel hT x
  rw [hx] at h
  refine .quiet hH (c := .bool (!b)) ?_ (.d _ _ (.bool _))
  simp only [execOp, ho]
  rw [h.bool_inv]
  simp [Op.unary]

theorem eqGuard_int (op : BinOp) (t : TypeId) (x y : Operand) (k k' : IntKind) (n m : Int) : (eqGuard op t x y (.int k n) (.int k' m)).run P w = .ok () w := by
  unfold eqGuard
  split <;> simp
theorem eqGuard_bool (op : BinOp) (t : TypeId) (x y : Operand) (b b' : Bool) : (eqGuard op t x y (.bool b) (.bool b')).run P w = .ok () w := by
  unfold eqGuard
  split <;> simp

theorem out_int {o : Oper} {op : BinOp} {ty ty' : Nat} {x y : Operand} {k : IntKind} {n m : Int} {p : Prop} {r : D} (ho : o.op = .binOp op ty x y ty') (hx : ev T x = .d (.int k n)) (hy : ev T y = .d (.int k m))
    (hr : intBin op k n m = some (p, r)) (hp : p) (hH : HRel C φ S H w) (hT : TRel φ S H w T a) : Out P C φ S H w o a (.d r) H := by
  have h := ev_rel hT x
  rw [hx] at h
  have h' := ev_rel hT y
  rw [hy] at h'
  have e1 := h.int_inv
  have e2 := h'.int_inv
  have key : ∀ (c : Value), (binOp op ty (.int k n) (.int k m)).run P w = .ok c w → RV φ S H w (.d r) c → Out P C φ S H w o a (.d r) H := fun c hc hv => by
    refine .quiet hH (c := c) ?_ hv
    simp only [execOp, ho, e1, e2, Sem.run_bind, eqGuard_int, Result.andThen_ok, hc, Sem.run_pure]
  cases op <;> simp only [intBin, Option.some.injEq, Prod.mk.injEq, reduceCtorEq] at hr <;> obtain ⟨rfl, rfl⟩ := hr
  case add => exact key _ (by simp [binOp, Op.intArith]) (.d _ _ (.int _ _))
  case sub => exact key _ (by simp [binOp, Op.intArith]) (.d _ _ (.int _ _))
  case mul => exact key _ (by simp [binOp, Op.intArith]) (.d _ _ (.int _ _))
  case quo => exact key _ (by simp [binOp, Op.intDiv, hp]) (.d _ _ (.int _ _))
  case rem => exact key _ (by simp [binOp, Op.intDiv, hp]) (.d _ _ (.int _ _))
  case eql => exact key _ (by simp [binOp, Op.intCmp]) (.d _ _ (.bool _))
  case neq => exact key _ (by simp [binOp, Op.intCmp]) (.d _ _ (.bool _))
  case lss => exact key _ (by simp [binOp, Op.intCmp]) (.d _ _ (.bool _))
  case leq => exact key _ (by simp [binOp, Op.intCmp]) (.d _ _ (.bool _))
  case gtr => exact key _ (by simp [binOp, Op.intCmp]) (.d _ _ (.bool _))
  case geq => exact key _ (by simp [binOp, Op.intCmp]) (.d _ _ (.bool _))
  case shr => exact key _ (by rw [binOp_shr, shift_shr _ _ _ _ hp.1 hp.2]; rfl) (.d _ _ (.int _ _))
  case shl => exact key _ (by rw [binOp_shl, shift_shl _ _ _ _ hp.1 hp.2]; rfl) (.d _ _ (.int _ _))
  case and => exact key _ (by simp [binOp_and, binOp_or, binOp_xor, binOp_andNot, intBits_and, intBits_or, intBits_xor, intBits_andNot]) (.d _ _ (.int _ _))
  case or => exact key _ (by simp [binOp_and, binOp_or, binOp_xor, binOp_andNot, intBits_and, intBits_or, intBits_xor, intBits_andNot]) (.d _ _ (.int _ _))
  case xor => exact key _ (by simp [binOp_and, binOp_or, binOp_xor, binOp_andNot, intBits_and, intBits_or, intBits_xor, intBits_andNot]) (.d _ _ (.int _ _))
  case andNot => exact key _ (by simp [binOp_and, binOp_or, binOp_xor, binOp_andNot, intBits_and, intBits_or, intBits_xor, intBits_andNot]) (.d _ _ (.int _ _))

theorem out_shift {o : Oper} {op : BinOp} {ty ty' : Nat} {x y : Operand} {k k' : IntKind} {n m : Int} {p : Prop} {r : D} (ho : o.op = .binOp op ty x y ty') (hop : op = .shl ∨ op = .shr) (hx : ev T x = .d (.int k n)) (hy : ev T y = .d (.int k' m))
    (hr : intBin op k n m = some (p, r)) (hp : p) (hH : HRel C φ S H w) (hT : TRel φ S H w T a) : Out P C φ S H w o a (.d r) H := by
  have h := ev_rel hT x
  rw [hx] at h
  have h' := ev_rel hT y
  rw [hy] at h'
  have e1 := h.int_inv
  have e2 := h'.int_inv
  have key : ∀ (c : Value), (binOp op ty (.int k n) (.int k' m)).run P w = .ok c w → RV φ S H w (.d r) c → Out P C φ S H w o a (.d r) H := fun c hc hv => by
    refine .quiet hH (c := c) ?_ hv
    simp only [execOp, ho, e1, e2, Sem.run_bind, eqGuard_int, Result.andThen_ok, hc, Sem.run_pure]
  rcases hop with rfl | rfl <;> simp only [intBin, Option.some.injEq, Prod.mk.injEq, reduceCtorEq] at hr <;> obtain ⟨rfl, rfl⟩ := hr
  · exact key _ (by rw [binOp_shl, shift_shl _ _ _ _ hp.1 hp.2]; rfl) (.d _ _ (.int _ _))
  · exact key _ (by rw [binOp_shr, shift_shr _ _ _ _ hp.1 hp.2]; rfl) (.d _ _ (.int _ _))

theorem out_extract {o : Oper} {x : Operand} {i : Nat} {vs : List V} {v : V} (ho : o.op = .extract x i) (hx : ev T x = .tuple vs) (hv : vs[i]? = some v) (hH : HRel C φ S H w) (hT : TRel φ S H w T a) :
    Out P C φ S H w o a v H := by
  have h := ev_rel hT x
  rw [hx] at h
  obtain ⟨cs, e, hl, hh⟩ := h.tuple_inv
  have hi : i < cs.length := by rw [← hl]; exact (List.getElem?_eq_some_iff.1 hv).1
  refine .quiet hH (c := cs[i]) ?_ (hh i v _ hv (List.getElem?_eq_getElem hi))
  simp [execOp, ho, e, Instr.extract, hi]

theorem out_dextract {o : Oper} {x : Operand} {i : Nat} {vs : List D} {v : D} (ho : o.op = .extract x i) (hx : ev T x = .d (.tuple vs)) (hv : vs[i]? = some v) (hH : HRel C φ S H w) (hT : TRel φ S H w T a) :
    Out P C φ S H w o a (.d v) H := by
  have h := ev_rel hT x
  rw [hx] at h
  obtain ⟨cs, e, hl, hh⟩ := h.dtuple_inv
  have hi : i < cs.length := by rw [← hl]; exact (List.getElem?_eq_some_iff.1 hv).1
  refine .quiet hH (c := cs[i]) ?_ (.d _ _ (hh i v _ hv (List.getElem?_eq_getElem hi)))
  simp [execOp, ho, e, Instr.extract, hi]

end
end Go.Proofs.Ytaejlmengfahnaa.AM

set_option linter.all false
namespace Go.Proofs.Ytaejlmengfahnaa.AM
open Go Go.RowKit

structure RVs (φ : Nat → Option Loc) (S : Nat → Prop) (H : Heap) (w : World) (vs : List V) (cs : List Value) : Prop where
  len : vs.length = cs.length
  at_ : ∀ (i : Nat) (v : V) (c : Value), vs[i]? = some v → cs[i]? = some c → RV φ S H w v c

section
variable {P : Program} {E : Env} {C : Ctx} {φ φ' : Nat → Option Loc} {S S' : Nat → Prop} {H H' : Heap} {w w' : World} {T : Tmps} {a : Act}

theorem RVs.nil : RVs φ S H w [] [] := ⟨rfl, fun i v c h => by simp at h⟩
theorem RVs.cons {v : V} {c : Value} {vs : List V} {cs : List Value} (h : RV φ S H w v c) (hs : RVs φ S H w vs cs) : RVs φ S H w (v :: vs) (c :: cs) :=
  ⟨by simp [hs.len], fun i x y hx hy => by
    cases i with
    | zero => simp at hx hy; subst hx; subst hy; exact h
    | succ i => exact hs.at_ i x y (by simpa using hx) (by simpa using hy)⟩
theorem RVs.take {vs : List V} {cs : List Value} (h : RVs φ S H w vs cs) (n : Nat) : RVs φ S H w (vs.take n) (cs.take n) :=
  ⟨by simp [h.len], fun i x y hx hy => by
    rw [List.getElem?_take] at hx hy
    split at hx
    · rename_i hi; rw [if_pos hi] at hy; exact h.at_ i x y hx hy
    · cases hx⟩
theorem RVs.drop {vs : List V} {cs : List Value} (h : RVs φ S H w vs cs) (n : Nat) : RVs φ S H w (vs.drop n) (cs.drop n) :=
  ⟨by simp [h.len], fun i x y hx hy => by rw [List.getElem?_drop] at hx hy; exact h.at_ _ x y hx hy⟩
theorem RVs.append {vs us : List V} {cs ds : List Value} (h : RVs φ S H w vs cs) (h' : RVs φ S H w us ds) : RVs φ S H w (vs ++ us) (cs ++ ds) :=
  ⟨by simp [h.len, h'.len], fun i x y hx hy => by
    rw [List.getElem?_append] at hx hy
    split at hx
    · rename_i hi; rw [if_pos (by rw [← h.len]; exact hi)] at hy; exact h.at_ i x y hx hy
    · rename_i hi; rw [if_neg (by rw [← h.len]; exact hi)] at hy; exact h'.at_ _ x y hx (by rw [h.len]; exact hy)⟩
theorem RVs.step {vs : List V} {cs : List Value} (hs : Step φ S H w φ' S' H' w') (h : RVs φ S H w vs cs) : RVs φ' S' H' w' vs cs :=
  ⟨h.len, fun i x y hx hy => (h.at_ i x y hx hy).step hs⟩
theorem RVs.splice {vs us : List V} {cs ds : List Value} (h : RVs φ S H w vs cs) (h' : RVs φ S H w us ds) (j : Nat) : RVs φ S H w (splice vs j us) (AM.splice cs j ds) := by
  unfold AM.splice
  rw [h'.len]
  exact ((h.take j).append h').append (h.drop _)

theorem RVs.of_agg {vs : List V} {c : Value} (h : RV φ S H w (.agg vs) c) : ∃ cs : List Value, c = .agg cs.toArray ∧ RVs φ S H w vs cs := by
  cases h with | agg _ cs hl h => exact ⟨cs, rfl, hl, h⟩
theorem RVs.of_dagg {ds : List D} {c : Value} (h : RV φ S H w (.d (.agg ds)) c) : ∃ cs : List Value, c = .agg cs.toArray ∧ RVs φ S H w (ds.map V.d) cs := by
  cases h with | d x c h => cases h with | agg _ cs hl h =>
    refine ⟨cs, rfl, by simpa using hl, fun i x y hx hy => ?_⟩
    rw [List.getElem?_map] at hx
    cases hd : ds[i]? with
    | none => simp [hd] at hx
    | some d => simp [hd] at hx; subst hx; exact .d _ _ (h i d y hd hy)

theorem RV.cells {v : V} {c : Value} (h : RV φ S H w v c) (hu : v.isUndef = false) : RVs φ S H w v.cells c.cells.toList := by
  have one : ∀ {v : V} {c : Value}, RV φ S H w v c → v.cells = [v] → c.cells = #[c] → RVs φ S H w v.cells c.cells.toList := fun h e1 e2 => by
    rw [e1, e2]; exact .cons h .nil
  cases h with
  | d x c hx =>
    cases hx with
    | undef => simp [V.isUndef] at hu
    | agg ds cs hl hh =>
      obtain ⟨cs', e, hr⟩ := RVs.of_dagg (.d _ _ (.agg ds cs hl hh) : RV φ S H w (.d (.agg ds)) (.agg cs.toArray))
      have e' : cs = cs' := by injection e with e; simpa using congrArg Array.toList e
      subst e'
      simpa [V.cells, Value.cells] using hr
    | bool b => exact one (.d _ _ (.bool b)) rfl rfl
    | int k n => exact one (.d _ _ (.int k n)) rfl rfl
    | nilp => exact one (.d _ _ .nilp) rfl rfl
    | nilf => exact one (.d _ _ .nilf) rfl rfl
    | tuple ds cs hl hh => exact one (.d _ _ (.tuple ds cs hl hh)) rfl rfl
    | func f ds cs hl hh => exact one (.d _ _ (.func f ds cs hl hh)) rfl rfl
    | fmap ks vs B es clock h1 h2 h3 h4 h5 h6 => exact one (.d _ _ (.fmap ks vs B es clock h1 h2 h3 h4 h5 h6)) rfl rfl
    | vec els a cap B o sz m h1 h2 h3 h4 h5 => exact one (.d _ _ (.vec els a cap B o sz m h1 h2 h3 h4 h5)) rfl rfl
    | imm e j B o m h1 h2 => exact one (.d _ _ (.imm e j B o m h1 h2)) rfl rfl
  | nils => exact one .nils rfl rfl
  | ptr id i j A hb h => exact one (.ptr id i j A hb h) rfl rfl
  | own id off len l cap A hb h => exact one (.own id off len l cap A hb h) rfl rfl
  | full id off len c A hb h => exact one (.full id off len c A hb h) rfl rfl
  | agg vs cs hl h => exact ⟨by simpa [V.cells, Value.cells] using hl, by simpa [V.cells, Value.cells] using h⟩
  | tuple vs cs hl h => exact one (.tuple vs cs hl h) rfl rfl
  | func f vs cs hl h => exact one (.func f vs cs hl h) rfl rfl

theorem RV.one_inv {v : V} {c : Value} (h : RV φ S H w v c) (ho : v.one = true) : c.oneCell' = true := by
  cases h with
  | d x c hx => cases hx <;> first | rfl | simp [V.one] at ho
  | nils => rfl
  | ptr => rfl
  | own => rfl
  | full => rfl
  | agg => simp [V.one] at ho
  | tuple => simp [V.one] at ho
  | func => rfl

theorem hget_hput (H : Heap) (id i : Nat) (b : Blk) : hget (hput H id b) i = if i = id then b else hget H i := by
  induction H generalizing id i with
  | nil =>
    induction id generalizing i with
    | zero => cases i <;> simp [hput, hget]
    | succ id ih => cases i <;> simp [hput, hget, ih]
  | cons x H ih =>
    cases id with
    | zero => cases i <;> simp [hput, hget]
    | succ id => cases i <;> simp [hput, hget, ih]

def upd (φ : Nat → Option Loc) (id : Nat) (L : Option Loc) : Nat → Option Loc := fun i => if i = id then L else φ i

theorem BR.keep {id : Nat} {b : Blk} (h : BR φ S H w id b) (hs : Step φ S H w φ' S' H' w') (hφ : φ' id = φ id)
    (hw : ∀ L, φ id = some L → w'.heap[L.blk]? = w.heap[L.blk]? ∧ (S' L.blk ↔ S L.blk)) : BR φ' S' H' w' id b := by
  cases b with
  | unborn => exact hφ.trans h
  | dead => exact hφ.trans h
  | box fz cells =>
    obtain ⟨L, cs, t, h1, h2, h3, h4, h5, h6⟩ := h
    obtain ⟨hw1, hw2⟩ := hw L h1
    exact ⟨L, cs, t, hφ.trans h1, h2, ⟨hw1.trans h3.heap, h3.size⟩, h4, fun k v c hk hc => (h5 k v c hk hc).step hs, hw2.trans h6⟩
  | dat fz sz els =>
    rcases h with ⟨h1, h2⟩ | ⟨L, cs, t, h1, h2, h3, h4, h5, h6⟩
    · exact .inl ⟨h1, hφ.trans h2⟩
    · obtain ⟨hw1, hw2⟩ := hw L h1
      exact .inr ⟨L, cs, t, hφ.trans h1, ⟨hw1.trans h2.heap, h2.size⟩, h3, h4, fun i e k x he hx => by
        obtain ⟨c, hc, hr⟩ := h5 i e k x he hx
        exact ⟨c, hc, hr.keep hs.keepS⟩, hw2.trans h6⟩

theorem HRel.lt (hH : HRel C φ S H w) {id : Nat} {L : Loc} (h : φ id = some L) : L.blk < w.heap.size := by
  have hb := hH.blk id
  cases hg : hget H id with
  | unborn => rw [hg] at hb; simp only [BR] at hb; rw [hb] at h; cases h
  | dead => rw [hg] at hb; simp only [BR] at hb; rw [hb] at h; cases h
  | box fz cells =>
    rw [hg] at hb
    obtain ⟨L', cs, t, h1, h2, h3, _⟩ := hb
    rw [h1] at h; cases h
    exact (Array.getElem?_eq_some_iff.1 h3.heap).1
  | dat fz sz els =>
    rw [hg] at hb
    rcases hb with ⟨h1, h2⟩ | ⟨L', cs, t, h1, h3, _⟩
    · rw [h2] at h; cases h
    · rw [h1] at h; cases h
      exact (Array.getElem?_eq_some_iff.1 h3.heap).1

theorem HRel.alloc (hH : HRel C φ S H w) {nid : Nat} (hu : hget H nid = .unborn) (b : Blk) (cs : Array Value) (t : TypeId)
    (hb : Step φ S H w (upd φ nid (some ⟨w.heap.size, 0, cs.size⟩)) S (hput H nid b) (w.alloc (.cells cs t)) →
      BR (upd φ nid (some ⟨w.heap.size, 0, cs.size⟩)) S (hput H nid b) (w.alloc (.cells cs t)) nid b) :
    HRel C (upd φ nid (some ⟨w.heap.size, 0, cs.size⟩)) S (hput H nid b) (w.alloc (.cells cs t)) ∧
      Step φ S H w (upd φ nid (some ⟨w.heap.size, 0, cs.size⟩)) S (hput H nid b) (w.alloc (.cells cs t)) ∧ Kp C w (w.alloc (.cells cs t)) := by
  have hs : Step φ S H w (upd φ nid (some ⟨w.heap.size, 0, cs.size⟩)) S (hput H nid b) (w.alloc (.cells cs t)) :=
    ⟨fun B h hlt => ⟨h, heap_alloc_old w _ hlt⟩, fun id hid => by
      have hne : id ≠ nid := fun e => hid (by rw [e]; exact hu)
      rw [hget_hput, if_neg hne]
      by_cases hd : hget H id = .dead
      · exact .inl hd
      · exact .inr ⟨.refl hid hd, by simp [upd, hne]⟩⟩
  refine ⟨⟨?_, ?_, hH.vis, ?_, ?_, ?_⟩, hs, ⟨rfl, rfl, rfl, by simp, fun B hB _ => heap_alloc_old w _ (Nat.lt_of_lt_of_le hB hH.n0)⟩⟩
  · have := hH.n0; simp; omega
  · intro id L h
    by_cases hne : id = nid
    · subst hne; simp [upd] at h; subst h; exact .inr hH.n0
    · simp [upd, hne] at h; exact hH.own id L h
  · intro id id' L L' h h' e
    by_cases h1 : id = nid <;> by_cases h2 : id' = nid
    · rw [h1, h2]
    · subst h1; simp [upd] at h; simp [upd, h2] at h'; subst h
      have := hH.lt h'; simp at e; omega
    · subst h2; simp [upd] at h'; simp [upd, h1] at h; subst h'
      have := hH.lt h; simp at e; omega
    · simp [upd, h1] at h; simp [upd, h2] at h'; exact hH.inj id id' L L' h h' e
  · intro id
    rw [hget_hput]
    by_cases hne : id = nid
    · rw [if_pos hne, hne]; exact hb hs
    · rw [if_neg hne]
      exact (hH.blk id).keep hs (by simp [upd, hne]) (fun L hL => ⟨heap_alloc_old w _ (hH.lt hL), Iff.rfl⟩)
  · intro B hB; have := hH.low B hB; simp; omega

theorem run_zeroValue' {t : Nat} {i : TypeInfo} {z : Value} (h : P.info? t = some i) (hz : i.zero = some z) : (zeroValue t).run P w = .ok z w := by
  simp [zeroValue, typeInfo, h, hz]

theorem out_box_gen {o : Oper} {nid : Nat} {vs : List V} {c : Value} {t : Nat} (hr : (execOp a.eval o).run P w = .ok (.value (.pointer (some ⟨w.heap.size, 0, none⟩))) (w.alloc (.cells c.cells t)))
    (hv : RVs φ S H w vs c.cells.toList) (hH : HRel C φ S H w) (hu : hget H nid = .unborn) :
    Out P C φ S H w o a (.ptr nid 0 0) (hput H nid (.box false vs)) := by
  obtain ⟨h1, h2, h3⟩ := hH.alloc hu (.box false vs) c.cells t (fun hs => ⟨⟨w.heap.size, 0, c.cells.size⟩, c.cells, t, by simp [upd], rfl, ⟨heap_alloc_new w _, rfl⟩, by simpa using hv.len,
    fun k v x hk hx => (hv.at_ k v x hk (by simpa using hx)).step hs, by simp; intro h; exact absurd (hH.low _ h) (by simp)⟩)
  refine ⟨_, _, _, .inl hr, .ptr nid 0 0 _ (by rw [hget_hput]; simp) (fun sz _ => ⟨⟨w.heap.size, 0, c.cells.size⟩, by simp [upd], by simp⟩), h1, h2, h3⟩

theorem out_alloc {o : Oper} {t nid : Nat} {ti : TI} (ho : o.op = .alloc t) (ht : TOk P t ti) (hH : HRel C φ S H w) (hu : hget H nid = .unborn) :
    Out P C φ S H w o a (.ptr nid 0 0) (hput H nid (.box false ti.zero)) := by
  obtain ⟨i, z, d, h1, h2, h3, h4, h5, h5', h6, h7, h8, h9⟩ := ht.facts
  refine out_box_gen (c := z) (t := t) ?_ ?_ hH hu
  · simp [execOp, ho, Instr.alloc, run_zeroValue' h1 h4, newVar, newRow]
  · rw [h5]
    exact ⟨by simp, fun i v c hv hc => by
      rw [List.getElem?_map, hc] at hv
      simp at hv; subst hv; exact ofVal_rel c⟩

theorem out_box {o : Oper} {t nid : Nat} {x : Operand} (ho : o.op = .box t x) (hx : (ev T x).isUndef = false) (hH : HRel C φ S H w) (hT : TRel φ S H w T a) (hu : hget H nid = .unborn) :
    Out P C φ S H w o a (.ptr nid 0 0) (hput H nid (.box false (ev T x).cells)) := by
  refine out_box_gen (c := a.eval x) (t := t) ?_ ((ev_rel hT x).cells hx) hH hu
  simp [execOp, ho, Instr.box, newVar, newRow]

theorem addr_add (B n k : Nat) : (⟨B, n, none⟩ : Addr).add k = ⟨B, n + k, none⟩ := by
  unfold Addr.add
  split
  · rename_i h; subst h; rfl
  · rfl

theorem run_load_cells {o : Oper} {t : Nat} {x : Operand} {ti : TI} (ho : o.op = .load t x) (ht : TOk P t ti) {B n : Nat} (hx : a.eval x = .pointer (some ⟨B, n, none⟩))
    (f : Nat → Value) (hc : ∀ k, k < (if ti.agg then ti.size else 1) → w.cell? ⟨B, n + k, none⟩ = some (f k)) :
    (execOp a.eval o).run P w = .ok (.value (if ti.agg then .agg ((List.range ti.size).map f).toArray else f 0)) w := by
  obtain ⟨i, z, d, h1, h2, h3, h4, h5, h5', h6, h7, h8, h9⟩ := ht.facts
  simp only [execOp, ho, Instr.loadAt, hx, Instr.sureAddr, loadVar, Sem.run_bind, Sem.run_pure, Result.andThen_ok, run_isAgg' h6]
  rw [← h7]
  cases hag : ti.agg with
  | true =>
    have hl := run_loadCells (P := P) w ⟨B, n, none⟩ ti.size f (fun j hj => by rw [addr_add]; exact hc j (by simpa [hag] using hj))
    simp [run_sizeOf' h1, h2, hl]
  | false =>
    have h0 := hc 0 (by simp [hag])
    simp at h0
    simp [h0]

theorem out_loadD {o : Oper} {t : Nat} {x : Operand} {ti : TI} (ho : o.op = .load t x) (ht : TOk P t ti) {B n j : Nat} (hx : a.eval x = .pointer (some ⟨B, n + j, none⟩)) {e : D} {v : V} {ch : Ch}
    (hl : loadD ti e j = some (True, v, ch)) (hc : ∀ (k : Nat) (y : D), e.cells[k]? = some y → ∃ c, w.cell? ⟨B, n + k, none⟩ = some c ∧ RD S w y c) (hH : HRel C φ S H w) :
    ch = .no ∧ Out P C φ S H w o a v H := by
  obtain ⟨f, hf⟩ : ∃ f : Nat → Value, ∀ (k : Nat) (y : D), e.cells[k]? = some y → w.cell? ⟨B, n + k, none⟩ = some (f k) ∧ RD S w y (f k) := by
    refine ⟨fun k => (w.cell? ⟨B, n + k, none⟩).getD undef, fun k y hy => ?_⟩
    obtain ⟨c, h1, h2⟩ := hc k y hy
    simp [h1, h2]
  unfold loadD at hl
  cases hag : ti.agg with
  | true =>
    simp only [hag, if_true] at hl
    split at hl
    · rename_i hle
      simp only [ok, Option.some.injEq, Prod.mk.injEq, true_and] at hl
      obtain ⟨rfl, rfl⟩ := hl
      refine ⟨rfl, .quiet hH (c := .agg ((List.range ti.size).map (fun k => f (j + k))).toArray) ?_ (.d _ _ (.agg _ _ (by simp; omega) ?_))⟩
      · have := run_load_cells (a := a) (w := w) ho ht hx (fun k => f (j + k)) (fun k hk => by
          have hk' : j + k < e.cells.length := by rw [if_pos hag] at hk; omega
          rw [Nat.add_assoc]
          exact (hf (j + k) _ (List.getElem?_eq_getElem hk')).1)
        simpa [hag] using this
      · intro i y c hy hc'
        rw [List.getElem?_take] at hy
        split at hy
        · rename_i hi
          rw [List.getElem?_drop] at hy
          simp [List.getElem?_map, List.getElem?_range hi] at hc'
          subst hc'
          exact (hf (j + i) y hy).2
        · cases hy
    · cases hl
  | false =>
    simp only [hag, Bool.false_eq_true, if_false] at hl
    split at hl
    · rename_i y hy
      simp only [ok, Option.some.injEq, Prod.mk.injEq, true_and] at hl
      obtain ⟨rfl, rfl⟩ := hl
      refine ⟨rfl, .quiet hH (c := f j) ?_ (.d _ _ (hf j y hy).2)⟩
      have := run_load_cells (a := a) (w := w) ho ht hx (fun k => f (j + k)) (fun k hk => by
        simp [hag] at hk; subst hk; simpa using (hf j y hy).1)
      simpa [hag] using this
    · cases hl

theorem out_load_imm {o : Oper} {t : Nat} {x : Operand} {ti : TI} (ho : o.op = .load t x) (ht : TOk P t ti) {e : D} {j : Nat} (hx : ev T x = .d (.imm e j)) {v : V} {ch : Ch}
    (hl : loadD ti e j = some (True, v, ch)) (hH : HRel C φ S H w) (hT : TRel φ S H w T a) : ch = .no ∧ Out P C φ S H w o a v H := by
  have h := ev_rel hT x
  rw [hx] at h
  generalize hc : a.eval x = c at h
  cases h with | d y c h => cases h with | imm e j B n m h1 h2 =>
    exact out_loadD ho ht hc hl (fun k y hy => ⟨m k, (h1 k y hy).2, h2 k y hy⟩) hH

theorem out_load_dat {o : Oper} {t : Nat} {x : Operand} {ti : TI} (ho : o.op = .load t x) (ht : TOk P t ti) {id i j : Nat} {fz : Bool} {sz : Nat} {els : List D} {e : D} (hx : ev T x = .ptr id i j)
    (hg : hget H id = .dat fz sz els) (he : els[i]? = some e) {v : V} {ch : Ch} (hl : loadD ti e j = some (True, v, ch)) (hH : HRel C φ S H w) (hT : TRel φ S H w T a) :
    ch = .no ∧ Out P C φ S H w o a v H := by
  have h := ev_rel hT x
  rw [hx] at h
  generalize hc : a.eval x = c at h
  cases h with | ptr id i j A hu h =>
    obtain ⟨L, hL, rfl⟩ := h sz (by rw [hg]; rfl)
    have hb := hH.blk id
    rw [hg] at hb
    rcases hb with ⟨h1, _⟩ | ⟨L', cs, t', h1, h2, h3, h4, h5, h6⟩
    · subst h1; simp at he
    · rw [hL] at h1; cases h1
      refine out_loadD ho ht hc hl (fun k y hy => ?_) hH
      obtain ⟨c', hc', hr⟩ := h5 i e k y he hy
      exact ⟨c', by rw [cell_of_row w L.blk _ cs t' (0, 0) h2.heap, Nat.add_assoc]; exact hc', hr⟩

theorem load_box_run {o : Oper} {t : Nat} {x : Operand} {ti : TI} (ho : o.op = .load t x) (ht : TOk P t ti) {id i j : Nat} {fz : Bool} {cells : List V} (hx : ev T x = .ptr id i j) (hi : i = 0)
    (hg : hget H id = .box fz cells) {v : V} (hl : if ti.agg then j + ti.size ≤ cells.length ∧ v = .agg ((cells.drop j).take ti.size) else cells[j]? = some v) (hH : HRel C φ S H w) (hT : TRel φ S H w T a) :
    ∃ c, (execOp a.eval o).run P w = .ok (.value c) w ∧ RV φ S H w v c := by
  have h := ev_rel hT x
  rw [hx] at h
  generalize hc : a.eval x = c at h
  cases h with | ptr id i j A hu h =>
    subst hi
    obtain ⟨L, hL, rfl⟩ := h cells.length (by rw [hg]; rfl)
    have hb := hH.blk id
    rw [hg] at hb
    obtain ⟨L', cs, t', h1, h2, h3, h4, h5, h6⟩ := hb
    rw [hL] at h1; cases h1
    simp only [h2, Nat.zero_mul, Nat.zero_add] at hc
    have hcell : ∀ k, w.cell? ⟨L.blk, k, none⟩ = cs[k]? := fun k => cell_of_row w L.blk k cs t' (0, 0) h3.heap
    cases hag : ti.agg with
    | true =>
      simp only [hag, if_true] at hl
      obtain ⟨hle, rfl⟩ := hl
      refine ⟨.agg ((List.range ti.size).map (fun k => cs.getD (j + k) undef)).toArray, ?_, .agg _ _ (by simp; omega) ?_⟩
      · have := run_load_cells (a := a) (w := w) ho ht hc (fun k => cs.getD (j + k) undef) (fun k hk => by
          rw [if_pos hag] at hk
          rw [hcell]
          have : j + k < cs.size := by omega
          simp [this])
        simpa [hag] using this
      · intro i y c' hy hc'
        rw [List.getElem?_take] at hy
        split at hy
        · rename_i hi
          rw [List.getElem?_drop] at hy
          simp only [List.getElem?_map, List.getElem?_range hi, Option.map_some, Option.some.injEq] at hc'
          have hlt : j + i < cs.size := by rw [← h4]; exact (List.getElem?_eq_some_iff.1 hy).1
          refine h5 (j + i) y c' hy ?_
          rw [← hc']; simp [hlt]
        · cases hy
    | false =>
      simp only [hag, Bool.false_eq_true, if_false] at hl
      have hlt : j < cs.size := by rw [← h4]; exact (List.getElem?_eq_some_iff.1 hl).1
      refine ⟨cs[j], ?_, h5 j v _ hl (by simp [hlt])⟩
      have := run_load_cells (a := a) (w := w) ho ht hc (fun k => cs.getD (j + k) undef) (fun k hk => by
        simp [hag] at hk; subst hk; rw [hcell]; simp [hlt])
      simpa [hag, hlt] using this

theorem out_load_box {o : Oper} {t : Nat} {x : Operand} {ti : TI} (ho : o.op = .load t x) (ht : TOk P t ti) {id i j : Nat} {fz : Bool} {cells : List V} (hx : ev T x = .ptr id i j) (hi : i = 0)
    (hg : hget H id = .box fz cells) {v : V} (hl : if ti.agg then j + ti.size ≤ cells.length ∧ v = .agg ((cells.drop j).take ti.size) else cells[j]? = some v) (hH : HRel C φ S H w) (hT : TRel φ S H w T a) :
    Out P C φ S H w o a v H :=
  let ⟨_, h1, h2⟩ := load_box_run ho ht hx hi hg hl hH hT
  .quiet hH h1 h2

end
end Go.Proofs.Ytaejlmengfahnaa.AM

set_option linter.all false
namespace Go.Proofs.Ytaejlmengfahnaa.AM
open Go Go.RowKit

section
variable {P : Program} {E : Env} {C : Ctx} {φ φ' : Nat → Option Loc} {S S' : Nat → Prop} {H H' : Heap} {w w' : World} {T : Tmps} {a : Act}

theorem splice_length {α : Type} (l : List α) (j : Nat) (xs : List α) (h : j + xs.length ≤ l.length) : (splice l j xs).length = l.length := by
  simp [splice]; omega

theorem splice_get {α : Type} (l : List α) (j : Nat) (xs : List α) (h : j + xs.length ≤ l.length) (k : Nat) :
    (splice l j xs)[k]? = if j ≤ k ∧ k < j + xs.length then xs[k - j]? else l[k]? := by
  unfold splice
  rw [List.getElem?_append, List.getElem?_append]
  simp only [List.length_append, List.length_take, List.getElem?_take, List.getElem?_drop]
  have hm : min j l.length = j := by omega
  rw [hm]
  by_cases h1 : k < j
  · rw [if_pos (by omega), if_pos h1, if_pos h1, if_neg (by omega)]
  · by_cases h2 : k < j + xs.length
    · rw [if_pos h2, if_neg h1, if_pos ⟨by omega, h2⟩]
    · rw [if_neg h2, if_neg (by omega)]
      congr 1; omega

theorem HRel.write (hH : HRel C φ S H w) {id : Nat} {L : Loc} {cs cs' : Array Value} {t : Nat} (hL : φ id = some L) (_hat : At w L cs t) (hS : ¬ S L.blk) (_hsz : cs'.size = cs.size) (b : Blk)
    (hsh : SameShape (hget H id) b) (hb : Step φ S H w φ S (hput H id b) (w.setRow L.blk cs') → BR φ S (hput H id b) (w.setRow L.blk cs') id b) :
    HRel C φ S (hput H id b) (w.setRow L.blk cs') ∧ Step φ S H w φ S (hput H id b) (w.setRow L.blk cs') ∧ Kp C w (w.setRow L.blk cs') := by
  have hs : Step φ S H w φ S (hput H id b) (w.setRow L.blk cs') := ⟨fun B h _ => ⟨h, setRow_other w L.blk B cs' (fun e => hS (e ▸ h))⟩, fun i hi => by
    rw [hget_hput]
    by_cases e : i = id
    · subst e; rw [if_pos rfl]; exact .inr ⟨hsh, rfl⟩
    · rw [if_neg e]
      by_cases hd : hget H i = .dead
      · exact .inl hd
      · exact .inr ⟨.refl hi hd, rfl⟩⟩
  refine ⟨⟨?_, hH.own, hH.vis, hH.inj, ?_, ?_⟩, hs, ⟨rfl, rfl, rfl, by simp, fun B hB hO => ?_⟩⟩
  · simpa using hH.n0
  · intro i
    rw [hget_hput]
    by_cases e : i = id
    · rw [if_pos e, e]; exact hb hs
    · rw [if_neg e]
      exact (hH.blk i).keep hs rfl (fun L' hL' => ⟨setRow_other w L.blk _ cs' (fun e' => e (hH.inj i id L' L hL' hL e')), Iff.rfl⟩)
  · intro B hB; simpa using hH.low B hB
  · refine setRow_other w L.blk B cs' (fun e => ?_)
    rcases hH.own id L hL with h | h
    · exact hO (e ▸ h)
    · omega

theorem run_store_cells {o : Oper} {t : Nat} {x y : Operand} {ti : TI} (ho : o.op = .store t x y) (ht : TOk P t ti) {B n : Nat} (hx : a.eval x = .pointer (some ⟨B, n, none⟩)) {cs : Array Value} {ty : Nat}
    (hB : w.heap[B]? = some (.cells cs ty (0, 0))) (hsz : (a.eval y).cells.size = ti.size) (hfit : n + ti.size ≤ cs.size) (h1 : ∀ v ∈ (a.eval y).cells.toList, v.oneCell' = true) :
    (execOp a.eval o).run P w = .ok .skip (w.setRow B (splice cs.toList n (a.eval y).cells.toList).toArray) := by
  obtain ⟨i, z, d, h2, h3, _⟩ := ht.facts
  have hst := run_storeCells_at P B n ty (a.eval y).cells.toList 0 cs w hB (by simp [hsz]; omega) h1
  simp only [Nat.add_zero] at hst
  simp [execOp, ho, Instr.storeAt, hx, Instr.sureAddr, storeVar, run_sizeOf' h2, h3, hsz, hst, splice]

theorem out_store_box {o : Oper} {t : Nat} {x y : Operand} {ti : TI} (ho : o.op = .store t x y) (ht : TOk P t ti) {id j : Nat} {cells : List V} (hx : ev T x = .ptr id 0 j) (hg : hget H id = .box false cells)
    (hsz : (ev T y).cells.length = ti.size) (h1 : (ev T y).cells.all V.one = true) (hfit : j + ti.size ≤ cells.length) (hu : (ev T y).isUndef = false) (hH : HRel C φ S H w) (hT : TRel φ S H w T a) :
    Out P C φ S H w o a (.d .undef) (hput H id (.box false (splice cells j (ev T y).cells))) := by
  have h := ev_rel hT x
  rw [hx] at h
  generalize hc : a.eval x = c at h
  have hy := (ev_rel hT y).cells hu
  cases h with | ptr id i j A hub h =>
    obtain ⟨L, hL, rfl⟩ := h cells.length (by rw [hg]; rfl)
    have hb := hH.blk id
    rw [hg] at hb
    obtain ⟨L', cs, t', h1', h2, h3, h4, h5, h6⟩ := hb
    rw [hL] at h1'; cases h1'
    simp only [h2, Nat.zero_mul, Nat.zero_add] at hc
    have hone : ∀ v ∈ (a.eval y).cells.toList, v.oneCell' = true := fun v hv => by
      obtain ⟨k, hk⟩ := List.mem_iff_getElem?.1 hv
      have hk' : k < (ev T y).cells.length := by rw [hy.len]; exact (List.getElem?_eq_some_iff.1 hk).1
      exact (hy.at_ k _ v (List.getElem?_eq_getElem hk') hk).one_inv (List.all_eq_true.1 h1 _ (List.getElem_mem hk'))
    have hszc : (a.eval y).cells.size = ti.size := by have := hy.len; simp at this; omega
    have hr := run_store_cells (w := w) ho ht hc h3.heap hszc (by omega) hone
    have hsz' : (splice cs.toList j (a.eval y).cells.toList).toArray.size = cs.size := by
      rw [List.size_toArray, splice_length _ _ _ (by simp; omega)]; simp
    obtain ⟨r1, r2, r3⟩ := hH.write hL h3 (fun hs => by simpa using h6.1 hs) hsz' (.box false (splice cells j (ev T y).cells))
      (by rw [hg]; simp only [SameShape]; rw [splice_length _ _ _ (by omega)])
      (fun hs => ⟨L, _, t', hL, h2, ⟨setRow_heap w L.blk cs _ t' (0, 0) h3.heap, h3.size.trans hsz'.symm⟩, by rw [hsz', splice_length _ _ _ (by omega)]; exact h4, fun k v c hk hcv => by
        have hrel : RVs φ S H w (splice cells j (ev T y).cells) (splice cs.toList j (a.eval y).cells.toList) :=
          RVs.splice ⟨by simpa using h4, fun k v c hk hcv => h5 k v c hk (by simpa using hcv)⟩ hy j
        exact (hrel.at_ k v c hk (by simpa using hcv)).step hs, h6⟩)
    exact ⟨_, _, φ, .inr ⟨hr, rfl⟩, .d _ _ (.undef _), r1, r2, r3⟩

theorem clos_spec : ∀ {vs : List V} {ds : List D}, clos vs = some ds → vs.length = ds.length ∧ ∀ (i : Nat) (v : V) (d : D), vs[i]? = some v → ds[i]? = some d → v.clo = some d
  | [], ds, h => by simp [clos] at h; subst h; simp
  | v :: r, ds, h => by
    simp only [clos] at h
    split at h
    · rename_i x xs hx hxs
      simp at h; subst h
      obtain ⟨h1, h2⟩ := clos_spec hxs
      refine ⟨by simp [h1], fun i u d hu hd => ?_⟩
      cases i with
      | zero => simp at hu hd; subst hu; subst hd; exact hx
      | succ i => exact h2 i u d (by simpa using hu) (by simpa using hd)
    · cases h

theorem RV.clo_rel {v : V} {c : Value} {x : D} (h : RV φ S H w v c) (hc : v.clo = some x) : RD S w x c := by
  cases h with
  | d y c hy => simp [V.clo] at hc; subst hc; exact hy
  | nils => simp [V.clo] at hc; subst hc; exact .vec [] none 0 0 0 0 (fun _ => undef) (Nat.le_refl _) (fun h => absurd rfl h) (fun e he => by simp at he) (fun i e k x he => by simp at he) (fun i e k x he => by simp at he)
  | ptr => simp [V.clo] at hc
  | own => simp [V.clo] at hc
  | full => simp [V.clo] at hc
  | agg => simp [V.clo] at hc
  | tuple => simp [V.clo] at hc
  | func => simp [V.clo] at hc

theorem RVs.clos {vs : List V} {cs : List Value} {ds : List D} (h : RVs φ S H w vs cs) (hc : AM.clos vs = some ds) :
    ds.length = cs.length ∧ ∀ (i : Nat) (d : D) (c : Value), ds[i]? = some d → cs[i]? = some c → RD S w d c := by
  obtain ⟨h1, h2⟩ := clos_spec hc
  refine ⟨by rw [← h1, h.len], fun i d c hd hcv => ?_⟩
  have hi : i < vs.length := by rw [h1]; exact (List.getElem?_eq_some_iff.1 hd).1
  exact (h.at_ i _ c (List.getElem?_eq_getElem hi) hcv).clo_rel (h2 i _ d (List.getElem?_eq_getElem hi) hd)

theorem D.over_cells (e : D) (j : Nat) (ds : List D) (hj : j + ds.length ≤ e.cells.length) (h1 : ∀ d ∈ ds, d.cells = [d]) (hne : ds ≠ []) : (e.over j ds).cells = splice e.cells j ds := by
  cases e with
  | agg cs => rfl
  | _ =>
    all_goals
      simp only [D.cells, List.length_singleton] at hj
      have hl : ds.length = 1 := by have := List.length_pos_iff.2 hne; omega
      obtain ⟨d, rfl⟩ := List.length_eq_one_iff.1 hl
      simp at hj; subst hj
      simp [D.over, D.cells, splice]
      exact h1 d (by simp)

theorem clo_one_cells {v : V} {x : D} (ho : v.one = true) (h : v.clo = some x) : x.cells = [x] := by
  cases v with
  | d y => simp [V.clo] at h; subst h; cases y <;> simp [V.one, D.cells] at ho ⊢
  | nils => simp [V.clo] at h; subst h; rfl
  | _ => simp [V.clo] at h

theorem getElem?_set_list {α : Type} (l : List α) (i k : Nat) (x : α) (hi : i < l.length) : (l.set i x)[k]? = if k = i then some x else l[k]? := by
  rw [List.getElem?_set]
  by_cases h : i = k
  · subst h; simp [hi]
  · simp [h, Ne.symm h]

theorem out_store_dat {o : Oper} {t : Nat} {x y : Operand} {ti : TI} (ho : o.op = .store t x y) (ht : TOk P t ti) {id i j sz : Nat} {els : List D} {e : D} {ds : List D} (hx : ev T x = .ptr id i j)
    (hg : hget H id = .dat false sz els) (he : els[i]? = some e) (hd : clos (ev T y).cells = some ds)
    (hsz : (ev T y).cells.length = ti.size) (hpos : 0 < ti.size) (h1 : (ev T y).cells.all V.one = true) (hfit : j + ti.size ≤ e.cells.length) (hu : (ev T y).isUndef = false) (hH : HRel C φ S H w) (hT : TRel φ S H w T a) :
    Out P C φ S H w o a (.d .undef) (hput H id (.dat false sz (els.set i (e.over j ds)))) := by
  have h := ev_rel hT x
  rw [hx] at h
  generalize hc : a.eval x = c at h
  have hy := (ev_rel hT y).cells hu
  obtain ⟨hcl1, hcl2⟩ := clos_spec hd
  have hone' : ∀ d ∈ ds, d.cells = [d] := fun d hdm => by
    obtain ⟨k, hk⟩ := List.mem_iff_getElem?.1 hdm
    have hk' : k < (ev T y).cells.length := by rw [hcl1]; exact (List.getElem?_eq_some_iff.1 hk).1
    exact clo_one_cells (List.all_eq_true.1 h1 _ (List.getElem_mem hk')) (hcl2 k _ d (List.getElem?_eq_getElem hk') hk)
  have hne : ds ≠ [] := fun e => by rw [e] at hcl1; simp at hcl1; rw [hcl1] at hsz; simp at hsz; omega
  cases h with | ptr id i j A hub h =>
    obtain ⟨L, hL, rfl⟩ := h sz (by rw [hg]; rfl)
    have hb := hH.blk id
    rw [hg] at hb
    rcases hb with ⟨hn, _⟩ | ⟨L', cs, t', h1', h3, h4, h5, h6, h7⟩
    · subst hn; simp at he
    rw [hL] at h1'; cases h1'
    have hi : i < els.length := (List.getElem?_eq_some_iff.1 he).1
    have hsze : e.cells.length = sz := h4 e (List.mem_of_getElem? he)
    have hov : (e.over j ds).cells = splice e.cells j ds := D.over_cells e j ds (by omega) hone' hne
    have hone : ∀ v ∈ (a.eval y).cells.toList, v.oneCell' = true := fun v hv => by
      obtain ⟨k, hk⟩ := List.mem_iff_getElem?.1 hv
      have hk' : k < (ev T y).cells.length := by rw [hy.len]; exact (List.getElem?_eq_some_iff.1 hk).1
      exact (hy.at_ k _ v (List.getElem?_eq_getElem hk') hk).one_inv (List.all_eq_true.1 h1 _ (List.getElem_mem hk'))
    have hszc : (a.eval y).cells.size = ti.size := by have := hy.len; simp at this; omega
    have hmul : (i + 1) * sz ≤ els.length * sz := Nat.mul_le_mul_right _ hi
    rw [Nat.add_mul, Nat.one_mul] at hmul
    have hr := run_store_cells (w := w) ho ht hc h3.heap hszc (by omega) hone
    have hfit' : L.off + i * sz + j + (a.eval y).cells.toList.length ≤ cs.toList.length := by simp; omega
    have hsz' : (splice cs.toList (L.off + i * sz + j) (a.eval y).cells.toList).toArray.size = cs.size := by
      rw [List.size_toArray, splice_length _ _ _ hfit']; simp
    obtain ⟨hy1, hy2⟩ := hy.clos hd
    have hds : ds.length = ti.size := by omega
    obtain ⟨r1, r2, r3⟩ := hH.write hL h3 (fun hs => by simpa using h7.1 hs) hsz' (.dat false sz (els.set i (e.over j ds)))
      (by rw [hg]; simp [SameShape])
      (fun hs => .inr ⟨L, _, t', hL, ⟨setRow_heap w L.blk cs _ t' (0, 0) h3.heap, h3.size.trans hsz'.symm⟩, fun e' he' => by
        rcases List.mem_or_eq_of_mem_set he' with h | rfl
        · exact h4 e' h
        · rw [hov, splice_length _ _ _ (by omega)]; exact hsze, by rw [hsz']; simpa using h5, fun i' e' k x' he' hx' => by
          rw [getElem?_set_list _ _ _ _ hi] at he'
          have hcell : (splice cs.toList (L.off + i * sz + j) (a.eval y).cells.toList).toArray[L.off + (i' * sz + k)]? =
            if L.off + i * sz + j ≤ L.off + (i' * sz + k) ∧ L.off + (i' * sz + k) < L.off + i * sz + j + ti.size then (a.eval y).cells.toList[L.off + (i' * sz + k) - (L.off + i * sz + j)]? else cs[L.off + (i' * sz + k)]? := by
            rw [List.getElem?_toArray, splice_get _ _ _ hfit']
            simp [hszc]
          rw [hcell]
          by_cases hi' : i' = i
          · subst hi'
            simp at he'; subst he'
            rw [hov] at hx'
            rw [splice_get _ _ _ (by omega)] at hx'
            by_cases hk : j ≤ k ∧ k < j + ds.length
            · rw [if_pos hk] at hx'
              rw [if_pos (by omega)]
              have hk2 : L.off + (i' * sz + k) - (L.off + i' * sz + j) = k - j := by omega
              rw [hk2]
              have hlt : k - j < (a.eval y).cells.toList.length := by simp; omega
              exact ⟨_, List.getElem?_eq_getElem hlt, (hy2 (k - j) x' _ hx' (List.getElem?_eq_getElem hlt)).keep hs.keepS⟩
            · rw [if_neg hk] at hx'
              rw [if_neg (by omega)]
              obtain ⟨c, hc1, hc2⟩ := h6 i' e k x' he hx'
              exact ⟨c, hc1, hc2.keep hs.keepS⟩
          · rw [if_neg hi'] at he'
            have hk : k < sz := by
              have := (List.getElem?_eq_some_iff.1 hx').1
              rw [h4 e' (List.mem_of_getElem? he')] at this; exact this
            have hneg : ¬ (L.off + i * sz + j ≤ L.off + (i' * sz + k) ∧ L.off + (i' * sz + k) < L.off + i * sz + j + ti.size) := by
              intro ⟨g1, g2⟩
              rcases Nat.lt_or_ge i' i with hlt | hge
              · have : (i' + 1) * sz ≤ i * sz := Nat.mul_le_mul_right _ hlt
                rw [Nat.add_mul, Nat.one_mul] at this; omega
              · have : (i + 1) * sz ≤ i' * sz := Nat.mul_le_mul_right _ (by omega)
                rw [Nat.add_mul, Nat.one_mul] at this; omega
            rw [if_neg hneg]
            obtain ⟨c, hc1, hc2⟩ := h6 i' e' k x' he' hx'
            exact ⟨c, hc1, hc2.keep hs.keepS⟩, h7⟩)
    exact ⟨_, _, φ, .inr ⟨hr, rfl⟩, .d _ _ (.undef _), r1, r2, r3⟩

end
end Go.Proofs.Ytaejlmengfahnaa.AM

set_option linter.all false
namespace Go.Proofs.Ytaejlmengfahnaa.AM
open Go Go.RowKit

section
variable {P : Program} {E : Env} {C : Ctx} {φ φ' : Nat → Option Loc} {S S' : Nat → Prop} {H H' : Heap} {w w' : World} {T : Tmps} {a : Act}

theorem RV.imm_inv {e : D} {j : Nat} {c : Value} (h : RV φ S H w (.d (.imm e j)) c) : ∃ B o, c = .pointer (some ⟨B, o + j, none⟩) ∧ ∀ j', RV φ S H w (.d (.imm e j')) (.pointer (some ⟨B, o + j', none⟩)) := by
  cases h with | d x c h => cases h with | imm _ _ B o m h1 h2 => exact ⟨B, o, rfl, fun j' => .d _ _ (.imm e j' B o m h1 h2)⟩

theorem RV.ptr_inv {id i j : Nat} {c : Value} (h : RV φ S H w (.ptr id i j) c) {sz : Nat} (hw : (hget H id).width = some sz) :
    ∃ L, φ id = some L ∧ c = .pointer (some ⟨L.blk, L.off + i * sz + j, none⟩) ∧ ∀ i' j', RV φ S H w (.ptr id i' j') (.pointer (some ⟨L.blk, L.off + i' * sz + j', none⟩)) := by
  cases h with | ptr _ _ _ A hu h =>
    obtain ⟨L, hL, rfl⟩ := h sz hw
    exact ⟨L, hL, rfl, fun i' j' => .ptr id i' j' _ hu (fun sz' hw' => by rw [hw] at hw'; cases hw'; exact ⟨L, hL, rfl⟩)⟩

theorem run_fieldPlace {f : Field} {fi : TypeInfo} (hf : P.info? f.type = some fi) (h0 : fi.size ≠ 0) (A : Addr) : (fieldPlace A f).run P w = .ok (A.add f.offset) w := by
  simp [fieldPlace, run_sizeOf' hf, h0]

theorem out_fieldAddr_gen {o : Oper} {t f off sz : Nat} {x : Operand} {ti : TI} (ho : o.op = .fieldAddr t x f) (ht : TOk P t ti) (hs : structAt ti f = some (off, sz)) (h0 : sz ≠ 0) {B n : Nat}
    (hx : a.eval x = .pointer (some ⟨B, n, none⟩)) : (execOp a.eval o).run P w = .ok (.value (.pointer (some ⟨B, n + off, none⟩))) w := by
  obtain ⟨i, z, d, h1, h2, h3, h4, h5, h5', h6, h7, h8, h9⟩ := ht.facts
  unfold structAt at hs
  split at hs
  · rename_i fs hsh
    rw [hsh] at h8
    obtain ⟨fields, rfl, hlen, hf⟩ := h8
    have hlt : f < fields.size := by rw [← hlen]; exact (List.getElem?_eq_some_iff.1 hs).1
    obtain ⟨j, hj, hfs⟩ := hf f fields[f] (by simp [hlt])
    rw [hfs] at hs
    simp at hs
    obtain ⟨rfl, rfl⟩ := hs
    simp [execOp, ho, Instr.fieldAt, run_underlying h6, hlt, hx, Instr.sureAddr, run_fieldPlace hj h0, addr_add]
  · cases hs

theorem out_fieldAddr_imm {o : Oper} {t f off sz : Nat} {x : Operand} {ti : TI} {e : D} {j : Nat} (ho : o.op = .fieldAddr t x f) (ht : TOk P t ti) (hs : structAt ti f = some (off, sz)) (h0 : sz ≠ 0)
    (hx : ev T x = .d (.imm e j)) (hH : HRel C φ S H w) (hT : TRel φ S H w T a) : Out P C φ S H w o a (.d (.imm e (j + off))) H := by
  have h := ev_rel hT x
  rw [hx] at h
  obtain ⟨B, n, hc, hh⟩ := h.imm_inv
  refine .quiet hH (out_fieldAddr_gen ho ht hs h0 hc) ?_
  rw [Nat.add_assoc]; exact hh _

theorem out_fieldAddr_ptr {o : Oper} {t f off sz : Nat} {x : Operand} {ti : TI} {id i j : Nat} (ho : o.op = .fieldAddr t x f) (ht : TOk P t ti) (hs : structAt ti f = some (off, sz)) (h0 : sz ≠ 0)
    (hx : ev T x = .ptr id i j) (hw : (hget H id).width.isSome = true) (hH : HRel C φ S H w) (hT : TRel φ S H w T a) : Out P C φ S H w o a (.ptr id i (j + off)) H := by
  have h := ev_rel hT x
  rw [hx] at h
  obtain ⟨s, hsz⟩ := Option.isSome_iff_exists.1 hw
  obtain ⟨L, hL, hc, hh⟩ := h.ptr_inv hsz
  refine .quiet hH (out_fieldAddr_gen ho ht hs h0 hc) ?_
  rw [Nat.add_assoc _ j off]; exact hh _ _

theorem RV.vec_inv {els : List D} {c : Value} (h : RV φ S H w (.d (.vec els)) c) : ∃ (A : Option Addr) (cap B o sz : Nat) (m : Nat → Value), c = .slice A els.length cap ∧ els.length ≤ cap ∧ (els ≠ [] → A = some ⟨B, o, none⟩) ∧ (∀ e ∈ els, e.cells.length = sz) ∧
      (∀ (i : Nat) (e : D) (k : Nat) (x : D), els[i]? = some e → e.cells[k]? = some x → S B ∧ w.cell? ⟨B, o + (i * sz + k), none⟩ = some (m (i * sz + k))) ∧
      (∀ (i : Nat) (e : D) (k : Nat) (x : D), els[i]? = some e → e.cells[k]? = some x → RD S w x (m (i * sz + k))) := by
  cases h with | d x c h => cases h with | vec _ A cap B o sz m h1 h2 h3 h4 h5 => exact ⟨A, cap, B, o, sz, m, rfl, h1, h2, h3, h4, h5⟩

theorem out_index_vec {o : Oper} {t et : Nat} {x ix : Operand} {ti eti : TI} {els : List D} {e : D} {k : IntKind} {n : Int} (ho : o.op = .indexAddr t x ix) (ht : TOk P t ti) (hsh : ti.shape = .slice et) (het : TOk P et eti)
    (hx : ev T x = .d (.vec els)) (hi : ev T ix = .d (.int k n)) (hn : 0 ≤ n) (he : els[n.toNat]? = some e) (hsz : e.cells.length = eti.size) (hH : HRel C φ S H w) (hT : TRel φ S H w T a) :
    Out P C φ S H w o a (.d (.imm e 0)) H := by
  obtain ⟨i, z, d, h1, h2, h3, h4, h5, h5', h6, h7, h8, h9⟩ := ht.facts
  obtain ⟨i', z', d', g1, g2, g3, g4, g5, g5', g6, g7, g8, g9⟩ := het.facts
  rw [hsh] at h8
  simp only [ShapeOk] at h8
  subst h8
  have h := ev_rel hT x
  rw [hx] at h
  have hI := ev_rel hT ix
  rw [hi] at hI
  have eI := hI.int_inv
  obtain ⟨A, cap, B, off, sz, m, hc, r1, r2, r3, r4, r5⟩ := h.vec_inv
  have hA := r2 (fun h0 => by subst h0; simp at he)
  subst hA
  have hlt : n.toNat < els.length := (List.getElem?_eq_some_iff.1 he).1
  have hsz' : sz = eti.size := by rw [← hsz]; exact (r3 e (List.mem_of_getElem? he)).symm
  refine .quiet hH (c := .pointer (some ⟨B, off + n.toNat * sz + 0, none⟩)) ?_ (.d _ _ (.imm e 0 B (off + n.toNat * sz) (fun k => m (n.toNat * sz + k)) (fun k x hk => ?_) (fun k x hk => r5 _ e k x he hk)))
  · have hb : n < (els.length : Int) := by omega
    simp [execOp, ho, Instr.indexAt, eI, asIntOf, run_underlying h6, hc, hn, hb, run_sizeOf' g1, g2, hsz', addr_add]
  · have := r4 _ e k x he hk
    rw [Nat.add_assoc]; exact this

theorem out_index_own {o : Oper} {t et : Nat} {x ix : Operand} {ti eti : TI} {id off len sz : Nat} {fz : Bool} {els : List D} {k : IntKind} {n : Int} (ho : o.op = .indexAddr t x ix) (ht : TOk P t ti) (hsh : ti.shape = .slice et) (het : TOk P et eti)
    (hx : ev T x = .own id off len) (hg : hget H id = .dat fz sz els) (hi : ev T ix = .d (.int k n)) (hn : 0 ≤ n) (hlt : n < len) (hsz : sz = eti.size) (hH : HRel C φ S H w) (hT : TRel φ S H w T a) :
    Out P C φ S H w o a (.ptr id (off + n.toNat) 0) H := by
  obtain ⟨i, z, d, h1, h2, h3, h4, h5, h5', h6, h7, h8, h9⟩ := ht.facts
  obtain ⟨i', z', d', g1, g2, g3, g4, g5, g5', g6, g7, g8, g9⟩ := het.facts
  rw [hsh] at h8
  simp only [ShapeOk] at h8
  subst h8
  have h := ev_rel hT x
  rw [hx] at h
  have hI := ev_rel hT ix
  rw [hi] at hI
  have eI := hI.int_inv
  generalize hc : a.eval x = c at h
  cases h with | own _ _ _ l cap A hu h =>
    obtain ⟨r1, rfl, r2, r3⟩ := h fz sz els hg
    rcases r3 with r3 | ⟨L, hL, rfl, r4⟩
    · omega
    · refine .quiet hH (c := .pointer (some ⟨L.blk, L.off + off * sz + n.toNat * sz, none⟩)) ?_ (.ptr _ _ _ _ hu (fun s hs => ⟨L, hL, ?_⟩))
      · simp [execOp, ho, Instr.indexAt, eI, asIntOf, run_underlying h6, hc, hn, hlt, run_sizeOf' g1, g2, hsz, addr_add]
      · rw [hg] at hs; simp [Blk.width] at hs; subst hs
        rw [Nat.add_mul]; simp [Nat.add_assoc]

theorem run_index_array {o : Oper} {t et m : Nat} {x ix : Operand} {ti eti : TI} {k : IntKind} {n : Int} (ho : o.op = .indexAddr t x ix) (ht : TOk P t ti) (hsh : ti.shape = .array m et) (het : TOk P et eti)
    (hi : a.eval ix = .int k n) (hn : 0 ≤ n) (hlt : n < m) {B b : Nat} (hx : a.eval x = .pointer (some ⟨B, b, none⟩)) :
    (execOp a.eval o).run P w = .ok (.value (.pointer (some ⟨B, b + n.toNat * eti.size, none⟩))) w := by
  obtain ⟨i, z, d, h1, h2, h3, h4, h5, h5', h6, h7, h8, h9⟩ := ht.facts
  obtain ⟨i', z', d', g1, g2, g3, g4, g5, g5', g6, g7, g8, g9⟩ := het.facts
  rw [hsh] at h8
  simp only [ShapeOk] at h8
  subst h8
  simp [execOp, ho, Instr.indexAt, hi, asIntOf, run_underlying h6, hx, Instr.sureAddr, hn, hlt, run_sizeOf' g1, g2, addr_add]

theorem out_index_array_ptr {o : Oper} {t et m : Nat} {x ix : Operand} {ti eti : TI} {id i j : Nat} {k : IntKind} {n : Int} (ho : o.op = .indexAddr t x ix) (ht : TOk P t ti) (hsh : ti.shape = .array m et) (het : TOk P et eti)
    (hx : ev T x = .ptr id i j) (hi : ev T ix = .d (.int k n)) (hn : 0 ≤ n) (hlt : n < m) (hw : (hget H id).width.isSome = true) (hH : HRel C φ S H w) (hT : TRel φ S H w T a) :
    Out P C φ S H w o a (.ptr id i (j + n.toNat * eti.size)) H := by
  have h := ev_rel hT x
  rw [hx] at h
  have hI := ev_rel hT ix
  rw [hi] at hI
  obtain ⟨s, hsz⟩ := Option.isSome_iff_exists.1 hw
  obtain ⟨L, hL, hc, hh⟩ := h.ptr_inv hsz
  refine .quiet hH (run_index_array ho ht hsh het hI.int_inv hn hlt hc) ?_
  rw [Nat.add_assoc _ j _]; exact hh _ _

theorem out_index_array_imm {o : Oper} {t et m : Nat} {x ix : Operand} {ti eti : TI} {e : D} {j : Nat} {k : IntKind} {n : Int} (ho : o.op = .indexAddr t x ix) (ht : TOk P t ti) (hsh : ti.shape = .array m et) (het : TOk P et eti)
    (hx : ev T x = .d (.imm e j)) (hi : ev T ix = .d (.int k n)) (hn : 0 ≤ n) (hlt : n < m) (hH : HRel C φ S H w) (hT : TRel φ S H w T a) :
    Out P C φ S H w o a (.d (.imm e (j + n.toNat * eti.size))) H := by
  have h := ev_rel hT x
  rw [hx] at h
  have hI := ev_rel hT ix
  rw [hi] at hI
  obtain ⟨B, b, hc, hh⟩ := h.imm_inv
  refine .quiet hH (run_index_array ho ht hsh het hI.int_inv hn hlt hc) ?_
  rw [Nat.add_assoc]; exact hh _

theorem out_nilCheck {o : Oper} {x : Operand} (ho : o.op = .nilCheck x) (hp : isPtr H (ev T x) = true) (hH : HRel C φ S H w) (hT : TRel φ S H w T a) : Out P C φ S H w o a (ev T x) H := by
  have h := ev_rel hT x
  refine .quiet hH (c := a.eval x) ?_ h
  generalize ev T x = v at h hp
  cases v with
  | d y =>
    cases y with
    | imm e j => obtain ⟨B, b, hc, _⟩ := h.imm_inv; simp [execOp, ho, hc]
    | func f cap => cases h with | d _ c h => generalize hc : a.eval x = c at h; cases h; simp [execOp, ho, hc]
    | _ => simp [isPtr] at hp
  | ptr id i j =>
    simp only [isPtr] at hp
    obtain ⟨s, hsz⟩ := Option.isSome_iff_exists.1 hp
    obtain ⟨L, hL, hc, _⟩ := h.ptr_inv hsz
    simp [execOp, ho, hc]
  | func f cap => generalize hc : a.eval x = c at h; cases h; simp [execOp, ho, hc]
  | _ => simp [isPtr] at hp

theorem out_makeFunc {o : Oper} {f : Nat} {first caps : Array Operand} (ho : o.op = .makeFunc (.func f) first caps) (hH : HRel C φ S H w) (hT : TRel φ S H w T a) :
    Out P C φ S H w o a (.func (f, first.size) ((first.toList ++ caps.toList).map (ev T))) H := by
  refine .quiet hH (c := .func (.func f) (((first.toList ++ caps.toList).map a.eval).take first.size).toArray (((first.toList ++ caps.toList).map a.eval).drop first.size).toArray) ?_ (.func (f, first.size) _ _ (by simp) (fun i v c hv hc => ?_))
  · have h1 : (((first.toList ++ caps.toList).map a.eval).take first.size).toArray = first.map a.eval := by apply Array.ext'; simp
    have h2 : (((first.toList ++ caps.toList).map a.eval).drop first.size).toArray = caps.map a.eval := by apply Array.ext'; simp
    rw [h1, h2]; simp [execOp, ho, Instr.makeFunc]
  · rw [List.getElem?_map] at hv hc
    cases hx : (first.toList ++ caps.toList)[i]? with
    | none => simp [hx] at hv
    | some x => simp [hx] at hv hc; subst hv; subst hc; exact ev_rel hT x

theorem out_convert {o : Oper} {s t : Nat} {x : Operand} {si ti : TI} {k k' : IntKind} {n : Int} (ho : o.op = .convert s t x) (hs : TOk P s si) (ht : TOk P t ti) (hsh : ti.shape = .int k) (hx : ev T x = .d (.int k' n))
    (hH : HRel C φ S H w) (hT : TRel φ S H w T a) : Out P C φ S H w o a (.d (.int k (k.wrap n))) H := by
  obtain ⟨i, z, d, h1, h2, h3, h4, h5, h5', h6, h7, h8, h9⟩ := ht.facts
  obtain ⟨i', z', d', g1, g2, g3, g4, g5, g5', g6, g7, g8, g9⟩ := hs.facts
  rw [hsh] at h8
  simp only [ShapeOk] at h8
  subst h8
  have h := ev_rel hT x
  rw [hx] at h
  refine .quiet hH (c := .int k (k.wrap n)) ?_ (.d _ _ (.int _ _))
  simp only [execOp, ho, h.int_inv, convert, Sem.run_bind, run_underlying g6, run_underlying h6, Result.andThen_ok]
  cases d' <;> simp [Conv.intToInt]

theorem lenOf_rel {v : V} {c : Value} {n : Int} (h : RV φ S H w v c) (hl : lenOf H v = some n) : ∃ (A : Option Addr) (len cap : Nat), c = .slice A len cap ∧ n = len ∧ len ≤ cap := by
  cases h with
  | d x c h =>
    cases h with
    | vec els A cap B o sz m h1 h2 h3 h4 h5 => simp [lenOf] at hl; exact ⟨A, _, cap, rfl, hl.symm, h1⟩
    | _ => simp [lenOf] at hl
  | nils => simp [lenOf] at hl; exact ⟨_, _, _, rfl, hl.symm, Nat.le_refl _⟩
  | own id off len l cap A hu h =>
    simp only [lenOf] at hl
    split at hl
    · rename_i fz sz els hg
      obtain ⟨_, rfl, h3, _⟩ := h _ _ _ hg
      simp at hl
      exact ⟨A, _, cap, rfl, hl.symm, h3⟩
    · cases hl
  | full id off len c A hu h =>
    simp only [lenOf] at hl
    split at hl
    · rename_i fz sz els hg
      obtain ⟨_, h3, _⟩ := h _ _ _ hg
      simp at hl
      exact ⟨A, _, c, rfl, hl.symm, h3⟩
    · cases hl
  | _ => simp [lenOf] at hl

theorem sliceOf_spec {t : Nat} {eti : TI} (hE : EOk P E) (h : sliceOf E t = some eti) : ∃ e, P.underlying t = some (.slice e) ∧ TOk P e eti ∧ ∃ ti, TOk P t ti := by
  unfold sliceOf at h
  split at h
  · rename_i ti hti
    split at h
    · rename_i e hsh
      have ht := hE t ti hti
      obtain ⟨i, z, d, h1, h2, h3, h4, h5, h5', h6, h7, h8, h9⟩ := ht.facts
      rw [hsh] at h8
      simp only [ShapeOk] at h8
      subst h8
      exact ⟨e, h6, hE e eti h, ti, ht⟩
    · cases h
  · cases h

theorem out_len {o : Oper} {c : Call} {x : Operand} {t : Nat} {eti : TI} {n : Int} (ho : o.op = .call c) (hc : c.callee = .builtin .len) (hargs : c.args.toList = [x]) (htys : c.argTypes.toList = [t]) (hE : EOk P E) (hs : sliceOf E t = some eti)
    (hl : lenOf H (ev T x) = some n) (hH : HRel C φ S H w) (hT : TRel φ S H w T a) : Out P C φ S H w o a (.d (.int .i64 n)) H := by
  obtain ⟨e, h1, _, _⟩ := sliceOf_spec hE hs
  obtain ⟨A, len, cap, h2, h3, h4⟩ := lenOf_rel (ev_rel hT x) hl
  refine .quiet hH (c := .int .i64 n) ?_ (.d _ _ (.int _ _))
  have e1 : c.args = #[x] := by rw [← hargs]
  have e2 : c.argTypes = #[t] := by rw [← htys]
  subst h3
  simp [execOp, ho, resolve, hc, e1, e2, invoke, builtin, Builtin.len_, run_underlying h1, h2, goInt]

theorem run_bounds {lo hi : Option Operand} {l h : Int} {len cap : Nat} (hlo : bound T 0 lo = some l) (hhi : bound T len hi = some h) (h0 : 0 ≤ l) (h1 : l ≤ h) (h2 : h ≤ cap) (hcap : len ≤ cap) (hT : TRel φ S H w T a) :
    (Instr.sliceBounds true len cap (lo.map a.eval) (hi.map a.eval) none).run P w = .ok (l.toNat, h.toNat, cap) w := by
  have hb : ∀ {x : Operand} {d n : Int}, bound T d (some x) = some n → ∃ k, a.eval x = .int k n := fun {x d n} hx => by
    simp only [bound] at hx
    split at hx
    · rename_i k m hm
      simp at hx; subst hx
      have := ev_rel hT x
      rw [hm] at this
      exact ⟨k, this.int_inv⟩
    · cases hx
  have hh : (h.toNat : Int) = h := by omega
  cases hi with
  | none =>
    simp [bound] at hhi; subst hhi
    cases lo with
    | none => simp [bound] at hlo; subst hlo; simp [Instr.sliceBounds]
    | some x =>
      obtain ⟨k, hk⟩ := hb hlo
      simp [Instr.sliceBounds, hk, Instr.sliceBound, asIntOf, h0]
      omega
  | some y =>
    obtain ⟨k', hk'⟩ := hb hhi
    have hc' : h ≤ (cap : Int) := by omega
    have h00 : 0 ≤ h := by omega
    cases lo with
    | none => simp [bound] at hlo; subst hlo; simp [Instr.sliceBounds, hk', Instr.sliceBound, asIntOf, h00, hc']
    | some x =>
      obtain ⟨k, hk⟩ := hb hlo
      simp [Instr.sliceBounds, hk, hk', Instr.sliceBound, asIntOf, h00, hc', h0, hh, h1]

theorem run_slice {o : Oper} {t : Nat} {x : Operand} {lo hi : Option Operand} {l h : Int} {len cap : Nat} {A : Option Addr} {eti : TI} (ho : o.op = .slice t x lo hi none) (hE : EOk P E) (hs : sliceOf E t = some eti)
    (hx : a.eval x = .slice A len cap) (hlo : bound T 0 lo = some l) (hhi : bound T len hi = some h) (h0 : 0 ≤ l) (h1 : l ≤ h) (h2 : h ≤ cap) (hcap : len ≤ cap) (hT : TRel φ S H w T a) :
    (execOp a.eval o).run P w = .ok (.value (.slice (if cap = l.toNat then A else A.map (·.add (l.toNat * eti.size))) (h.toNat - l.toNat) (cap - l.toNat))) w := by
  obtain ⟨e, h3, h4, _⟩ := sliceOf_spec hE hs
  obtain ⟨i, z, d, g1, g2, _⟩ := h4.facts
  have hb := run_bounds (P := P) (w := w) (a := a) hlo hhi h0 h1 h2 hcap hT
  simp [execOp, ho, Instr.sliceAt, run_underlying h3, Instr.slice, hx, hb, run_sizeOf' g1, g2]

theorem out_slice_nils {o : Oper} {t : Nat} {x : Operand} {lo hi : Option Operand} {l h : Int} {eti : TI} (ho : o.op = .slice t x lo hi none) (hE : EOk P E) (hs : sliceOf E t = some eti)
    (hx : ev T x = .nils) (hlo : bound T 0 lo = some l) (hhi : bound T 0 hi = some h) (hl0 : l = 0) (hh0 : h = 0) (hH : HRel C φ S H w) (hT : TRel φ S H w T a) : Out P C φ S H w o a .nils H := by
  subst hl0; subst hh0
  have hr := ev_rel hT x
  rw [hx] at hr
  generalize hc : a.eval x = c at hr
  cases hr
  have := run_slice (P := P) (w := w) ho hE hs hc hlo (by simpa using hhi) (by omega) (by omega) (by omega) (Nat.le_refl _) hT
  exact .quiet hH (c := .slice none 0 0) (by simpa using this) .nils

theorem out_slice_vec {o : Oper} {t : Nat} {x : Operand} {lo hi : Option Operand} {l h : Int} {eti : TI} {els : List D} (ho : o.op = .slice t x lo hi none) (hE : EOk P E) (hs : sliceOf E t = some eti)
    (hx : ev T x = .d (.vec els)) (hlo : bound T 0 lo = some l) (hhi : bound T els.length hi = some h) (h0 : 0 ≤ l) (h1 : l ≤ h) (h2 : h ≤ els.length) (hsz : ∀ e ∈ els, e.cells.length = eti.size) (hH : HRel C φ S H w) (hT : TRel φ S H w T a) :
    Out P C φ S H w o a (.d (.vec ((els.drop l.toNat).take (h - l).toNat))) H := by
  have hr := ev_rel hT x
  rw [hx] at hr
  obtain ⟨A, cap, B, off, sz, m, hc, r1, r2, r3, r4, r5⟩ := hr.vec_inv
  have hrun := run_slice (P := P) (w := w) ho hE hs hc hlo hhi h0 h1 (by omega) r1 hT
  have hlen : h.toNat - l.toNat = ((els.drop l.toNat).take (h - l).toNat).length := by simp; omega
  have hget : ∀ (i : Nat) (e : D), ((els.drop l.toNat).take (h - l).toNat)[i]? = some e → els[l.toNat + i]? = some e := fun i e he => by
    rw [List.getElem?_take] at he
    split at he
    · rwa [List.getElem?_drop] at he
    · cases he
  refine .quiet hH hrun ?_
  rw [hlen]
  refine .d _ _ (.vec _ _ _ B (off + l.toNat * sz) sz (fun k => m (l.toNat * sz + k)) ?_ ?_ ?_ ?_ ?_)
  · simp; omega
  · intro hne
    have hpos : 0 < ((els.drop l.toNat).take (h - l).toNat).length := List.length_pos_iff.2 hne
    simp at hpos
    have hels : els ≠ [] := fun e => by subst e; simp at hpos
    rw [r2 hels, if_neg (by omega)]
    obtain ⟨e0, he0⟩ := List.exists_mem_of_ne_nil els hels
    have : sz = eti.size := by rw [← r3 e0 he0]; exact hsz e0 he0
    simp [addr_add, this]
  · intro e he
    exact r3 e (List.mem_of_mem_drop (List.mem_of_mem_take he))
  · intro i e k x he hx'
    have := r4 _ e k x (hget i e he) hx'
    rw [Nat.add_mul] at this
    have e1 : off + l.toNat * sz + (i * sz + k) = off + (l.toNat * sz + i * sz + k) := by omega
    have e2 : l.toNat * sz + (i * sz + k) = l.toNat * sz + i * sz + k := by omega
    rw [e1]; simp only [e2]; exact this
  · intro i e k x he hx'
    have := r5 _ e k x (hget i e he) hx'
    rw [Nat.add_mul] at this
    have e2 : l.toNat * sz + (i * sz + k) = l.toNat * sz + i * sz + k := by omega
    simp only [e2]; exact this

theorem out_slice_own {o : Oper} {t : Nat} {x : Operand} {lo hi : Option Operand} {l h : Int} {eti : TI} {id off len sz : Nat} {fz : Bool} {els : List D} (ho : o.op = .slice t x lo hi none) (hE : EOk P E) (hs : sliceOf E t = some eti)
    (hx : ev T x = .own id off len) (hg : hget H id = .dat fz sz els) (hlo : bound T 0 lo = some l) (hhi : bound T len hi = some h) (h0 : 0 ≤ l) (h1 : l ≤ h) (h2 : h ≤ len) (hsz : sz = eti.size) (hH : HRel C φ S H w) (hT : TRel φ S H w T a) :
    Out P C φ S H w o a (.own id (off + l.toNat) (h - l).toNat) H := by
  have hr := ev_rel hT x
  rw [hx] at hr
  generalize hc : a.eval x = c at hr
  cases hr with | own _ _ _ ln cap A hu hh =>
    obtain ⟨r1, rfl, r2, r3⟩ := hh fz sz els hg
    have hrun := run_slice (P := P) (w := w) ho hE hs hc hlo hhi h0 h1 (by omega) r2 hT
    refine .quiet hH hrun (.own _ _ _ _ _ _ hu (fun fz' sz' els' hg' => ?_))
    rw [hg] at hg'; cases hg'
    refine ⟨by omega, by omega, by omega, ?_⟩
    rcases r3 with r3 | ⟨L, hL, rfl, r4⟩
    · left; omega
    · by_cases hcl : cap = l.toNat
      · left; omega
      · right
        refine ⟨L, hL, ?_, ?_⟩
        · rw [if_neg hcl]; simp [addr_add, hsz, Nat.add_mul, Nat.add_assoc]
        · have : off + l.toNat + (cap - l.toNat) = off + cap := by omega
          rw [this]; exact r4

theorem out_slice_full {o : Oper} {t : Nat} {x : Operand} {lo hi : Option Operand} {l h : Int} {eti : TI} {id off len k sz : Nat} {fz : Bool} {els : List D} (ho : o.op = .slice t x lo hi none) (hE : EOk P E) (hs : sliceOf E t = some eti)
    (hx : ev T x = .full id off len k) (hg : hget H id = .dat fz sz els) (hlo : bound T 0 lo = some l) (hhi : bound T len hi = some h) (h0 : 0 ≤ l) (h1 : l ≤ h) (h2 : h ≤ k) (h3 : off + h ≤ els.length) (hsz : sz = eti.size) (hH : HRel C φ S H w) (hT : TRel φ S H w T a) :
    Out P C φ S H w o a (.full id (off + l.toNat) (h - l).toNat (k - l.toNat)) H := by
  have hr := ev_rel hT x
  rw [hx] at hr
  generalize hc : a.eval x = c at hr
  cases hr with | full _ _ _ _ A hu hh =>
    obtain ⟨r1, r2, r3⟩ := hh fz sz els hg
    have hrun := run_slice (P := P) (w := w) ho hE hs hc hlo hhi h0 h1 h2 r2 hT
    have e : h.toNat - l.toNat = (h - l).toNat := by omega
    rw [e] at hrun
    refine .quiet hH hrun (.full _ _ _ _ _ hu (fun fz' sz' els' hg' => ?_))
    rw [hg] at hg'; cases hg'
    refine ⟨by omega, by omega, ?_⟩
    rcases r3 with r3 | ⟨L, hL, rfl, r4⟩
    · left; omega
    · by_cases hcl : k = l.toNat
      · left; omega
      · right
        refine ⟨L, hL, ?_, ?_⟩
        · rw [if_neg hcl]; simp [addr_add, hsz, Nat.add_mul, Nat.add_assoc]
        · have : off + l.toNat + (k - l.toNat) = off + k := by omega
          rw [this]; exact r4

end
end Go.Proofs.Ytaejlmengfahnaa.AM

set_option linter.all false
namespace Go.Proofs.Ytaejlmengfahnaa.AM
open Go Go.RowKit

section
variable {P : Program} {E : Env} {C : Ctx} {φ φ' : Nat → Option Loc} {S S' : Nat → Prop} {H H' : Heap} {w w' : World} {T : Tmps} {a : Act}

theorem setCells_splice (off : Nat) : ∀ (vs : List Value) (k : Nat) (A : Array Value), off + k + vs.length ≤ A.size →
    ((vs.zipIdx k).foldl (fun cs (p : Value × Nat) => cs.setIfInBounds (off + p.2) p.1) A).toList = splice A.toList (off + k) vs
  | [], k, A, _ => by simp [splice]
  | v :: r, k, A, h => by
    simp only [List.zipIdx_cons, List.foldl_cons]
    rw [setCells_splice off r (k + 1) _ (by simp at h ⊢; omega)]
    simp only [Array.toList_setIfInBounds]
    unfold splice
    have := list_seg_step A.toList (off + k) v r (by simp at h ⊢; omega)
    simpa [Nat.add_assoc] using this

theorem fill_step {place : Nat → Option (Nat × Nat)} {i off size : Nat} {v : Value} {rest : List (Nat × Value)} {A : Array Value} (hp : place i = some (off, size)) (hs : v.cells.size = size) (hfit : off + size ≤ A.size) :
    Instr.fill place A ((i, v) :: rest) = Instr.fill place (splice A.toList off v.cells.toList).toArray rest := by
  have h1 : ¬ (v.cells.size ≠ size || decide (off + v.cells.size > A.size)) = true := by simp [hs]; omega
  simp only [Instr.fill, hp]
  rw [if_neg (by simpa using h1)]
  congr 1
  apply Array.ext'
  have := setCells_splice off v.cells.toList 0 A (by simp [hs]; omega)
  simp only [Nat.add_zero] at this
  rw [← Array.foldl_toList, Array.toList_zipIdx]
  simpa using this

theorem fill_rel {place : Nat → Option (Nat × Nat)} (hT : TRel φ S H w T a) : ∀ (parts : List (Nat × Operand)) (cells out : List V) (cs : List Value), RVs φ S H w cells cs → partsV T place parts cells = some out →
    ∃ cs', Instr.fill place cs.toArray (parts.map fun p => (p.1, a.eval p.2)) = some cs' ∧ RVs φ S H w out cs'.toList
  | [], cells, out, cs, hr, h => by simp [partsV] at h; subst h; exact ⟨cs.toArray, rfl, by simpa using hr⟩
  | (i, x) :: r, cells, out, cs, hr, h => by
    simp only [partsV] at h
    split at h
    · rename_i off size hp
      split at h
      · rename_i hc
        simp only [Bool.and_eq_true, decide_eq_true_eq, Bool.not_eq_true'] at hc
        obtain ⟨⟨h1, h2⟩, h3⟩ := hc
        have hx := (ev_rel hT x).cells h3
        have hlen := hx.len
        simp at hlen
        rw [List.map_cons, fill_step hp (by show (a.eval x).cells.size = size; omega) (by simp; rw [← hr.len]; omega)]
        exact fill_rel hT r _ out _ (hr.splice hx off) h
      · cases h
    · cases h

theorem run_places' {fields : Array Field} {fs : List (Nat × Nat)} (hlen : fs.length = fields.size) (hf : ∀ (i : Nat) (f : Field), fields[i]? = some f → ∃ j, P.info? f.type = some j ∧ fs[i]? = some (f.offset, j.size)) :
    (fields.mapM (fun f => Prod.mk f.offset <$> sizeOf f.type : Field → Sem (Nat × Nat))).run P w = .ok fs.toArray w := by
  rw [Array.mapM_eq_mapM_toList]
  have key : ∀ (l : List Field) (gs : List (Nat × Nat)), gs.length = l.length → (∀ (i : Nat) (f : Field), l[i]? = some f → ∃ j, P.info? f.type = some j ∧ gs[i]? = some (f.offset, j.size)) →
      (l.mapM (fun f => Prod.mk f.offset <$> sizeOf f.type : Field → Sem (Nat × Nat))).run P w = .ok gs w := by
    intro l
    induction l with
    | nil => intro gs hl _; cases gs with
      | nil => simp
      | cons => simp at hl
    | cons f l ih =>
      intro gs hl hg
      cases gs with
      | nil => simp at hl
      | cons g gs =>
        obtain ⟨j, hj, e⟩ := hg 0 f rfl
        simp at e; subst e
        have ih' := ih gs (by simpa using hl) (fun i f' hf' => by have := hg (i + 1) f' (by simpa using hf'); simpa using this)
        simp only [List.mapM_cons, Sem.run_bind, Sem.run_map, run_sizeOf' hj, Result.andThen_ok, Sem.run_pure, ih']
  have := key fields.toList fs (by simpa using hlen) (fun i f h => hf i f (by simpa using h))
  simp [this]

theorem zero_rel {ti : TI} {z : Value} (h : ti.zero = z.cells.toList.map ofVal) : RVs φ S H w ti.zero z.cells.toList := by
  rw [h]
  refine ⟨by simp, fun i v c hv hc => ?_⟩
  rw [List.getElem?_map, hc] at hv
  simp at hv; subst hv
  exact ofVal_rel c

theorem out_build_struct {o : Oper} {t : Nat} {parts : Array (Nat × Operand)} {ti : TI} {fs : List (Nat × Nat)} {cells : List V} (ho : o.op = .build t parts) (ht : TOk P t ti) (hsh : ti.shape = .struct fs)
    (hp : partsV T (fun i => fs[i]?) parts.toList ti.zero = some cells) (hH : HRel C φ S H w) (hT : TRel φ S H w T a) : Out P C φ S H w o a (.agg cells) H := by
  obtain ⟨i, z, d, h1, h2, h3, h4, h5, h5', h6, h7, h8, h9⟩ := ht.facts
  rw [hsh] at h8
  obtain ⟨fields, rfl, hlen, hf⟩ := h8
  obtain ⟨cs', r1, r2⟩ := fill_rel hT parts.toList ti.zero cells z.cells.toList (zero_rel h5) hp
  refine .quiet hH (c := .agg cs') ?_ ?_
  · have hpl := run_places' (P := P) (w := w) hlen hf
    have r1' : Instr.fill (fun x => fs[x]?) z.cells (parts.toList.map fun p => (p.1, a.eval p.2)) = some cs' := by simpa using r1
    simp [execOp, ho, Instr.build, run_zeroValue' h1 h4, run_underlying h6, hpl, r1']
  · have := RV.agg (φ := φ) (S := S) (H := H) (w := w) cells cs'.toList r2.len r2.at_
    simpa using this

theorem out_build_array {o : Oper} {t m et : Nat} {parts : Array (Nat × Operand)} {ti eti : TI} {cells : List V} (ho : o.op = .build t parts) (ht : TOk P t ti) (hsh : ti.shape = .array m et) (het : TOk P et eti)
    (hp : partsV T (fun i => some (i * eti.size, eti.size)) parts.toList ti.zero = some cells) (hH : HRel C φ S H w) (hT : TRel φ S H w T a) : Out P C φ S H w o a (.agg cells) H := by
  obtain ⟨i, z, d, h1, h2, h3, h4, h5, h5', h6, h7, h8, h9⟩ := ht.facts
  obtain ⟨i', z', d', g1, g2, _⟩ := het.facts
  rw [hsh] at h8
  simp only [ShapeOk] at h8
  subst h8
  obtain ⟨cs', r1, r2⟩ := fill_rel hT parts.toList ti.zero cells z.cells.toList (zero_rel h5) hp
  refine .quiet hH (c := .agg cs') ?_ ?_
  · have r1' : Instr.fill (fun i => some (i * eti.size, eti.size)) z.cells (parts.toList.map fun p => (p.1, a.eval p.2)) = some cs' := by simpa using r1
    simp [execOp, ho, Instr.build, run_zeroValue' h1 h4, run_underlying h6, run_sizeOf' g1, g2, r1']
  · have := RV.agg (φ := φ) (S := S) (H := H) (w := w) cells cs'.toList r2.len r2.at_
    simpa using this


theorem RV.toD_rel {v : V} {c : Value} {x : D} (h : RV φ S H w v c) (hc : v.toD = some x) : RD S w x c := by
  cases h with
  | d y c hy => simp [V.toD] at hc; subst hc; exact hy
  | nils => simp [V.toD] at hc; subst hc; exact RV.clo_rel (φ := fun _ => none) (H := []) .nils rfl
  | agg vs cs hl h =>
    simp only [V.toD] at hc
    split at hc
    · rename_i ds hds
      simp at hc; subst hc
      obtain ⟨h1, h2⟩ := RVs.clos ⟨hl, h⟩ hds
      exact .agg ds cs h1 h2
    · cases hc
  | ptr => simp [V.toD] at hc
  | own => simp [V.toD] at hc
  | full => simp [V.toD] at hc
  | tuple => simp [V.toD] at hc
  | func f vs cs hl h =>
    simp only [V.toD] at hc
    split at hc
    · rename_i ds hds
      simp at hc; subst hc
      obtain ⟨h1, h2⟩ := RVs.clos ⟨hl, h⟩ hds
      exact .func f ds cs h1 h2
    · cases hc

theorem RD.cells {x : D} {c : Value} (h : RD S w x c) (hu : x.cells.all (fun d => (V.d d).one) = true) : x.cells.length = c.cells.size ∧ ∀ (k : Nat) (d : D) (y : Value), x.cells[k]? = some d → c.cells[k]? = some y → RD S w d y := by
  have hx : (V.d x).isUndef = false := by cases x <;> simp [V.isUndef, D.cells, V.one] at hu ⊢
  have hr := (RV.d (φ := fun _ => none) (S := S) (H := []) (w := w) x c h).cells hx
  have e : (V.d x).cells = x.cells.map V.d := by cases x <;> simp [V.cells, D.cells]
  rw [e] at hr
  refine ⟨by simpa using hr.len, fun k d y hd hy => ?_⟩
  have := hr.at_ k (.d d) y (by simp [hd]) (by simpa using hy)
  cases this; assumption

theorem flat_get {α : Type} (sz : Nat) : ∀ (ls : List (List α)), (∀ l ∈ ls, l.length = sz) → ∀ (i k : Nat) (l : List α), ls[i]? = some l → k < sz → ls.flatten[i * sz + k]? = l[k]?
  | [], _, i, k, l, h, _ => by simp at h
  | x :: r, hs, i, k, l, h, hk => by
    rw [List.flatten_cons, List.getElem?_append]
    have hx : x.length = sz := hs x (by simp)
    cases i with
    | zero => simp at h; subst h; rw [if_pos (by omega)]; simp
    | succ i =>
      rw [if_neg (by rw [hx, Nat.add_mul]; omega), hx]
      have : (i + 1) * sz + k - sz = i * sz + k := by rw [Nat.add_mul]; omega
      rw [this]
      exact flat_get sz r (fun l hl => hs l (by simp [hl])) i k l (by simpa using h) hk

theorem flat_length {α : Type} (sz : Nat) : ∀ (ls : List (List α)), (∀ l ∈ ls, l.length = sz) → ls.flatten.length = ls.length * sz
  | [], _ => by simp
  | x :: r, hs => by
    rw [List.flatten_cons, List.length_append, flat_length sz r (fun l hl => hs l (by simp [hl])), hs x (by simp)]
    simp [Nat.add_mul]; omega

theorem partsD_spec (hT : TRel φ S H w T a) {sz : Nat} : ∀ (parts : List (Nat × Operand)) (i : Nat) (els : List D), partsD T sz i parts = some els →
    parts.length = els.length ∧ ∀ (k : Nat) (p : Nat × Operand) (e : D), parts[k]? = some p → els[k]? = some e → p.1 = i + k ∧ e.cells.length = sz ∧ RD S w e (a.eval p.2) ∧ e.cells.all (fun d => (V.d d).one) = true
  | [], i, els, h => by simp [partsD] at h; subst h; simp
  | (j, x) :: r, i, els, h => by
    simp only [partsD] at h
    split at h
    · rename_i e es he hes
      split at h
      · rename_i hc
        simp only [Bool.and_eq_true, decide_eq_true_eq] at hc
        obtain ⟨⟨h1, h2⟩, h3⟩ := hc
        simp at h; subst h
        obtain ⟨g1, g2⟩ := partsD_spec hT r (i + 1) es hes
        refine ⟨by simp [g1], fun k p e' hp he' => ?_⟩
        cases k with
        | zero =>
          simp at hp he'; subst hp; subst he'
          refine ⟨by simpa using h1.symm, h2, (ev_rel hT x).toD_rel he, ?_⟩
          revert h3 he
          generalize ev T x = v
          intro he h3
          cases v with
          | d y =>
            obtain rfl : y = e := by simpa [V.toD] using he
            cases y <;> simp_all [V.cells, D.cells]
          | nils =>
            obtain rfl : D.vec [] = e := by simpa [V.toD] using he
            simp [D.cells, V.one]
          | agg vs =>
            simp only [V.toD] at he
            split at he
            · rename_i ds hds
              obtain rfl : D.agg ds = e := by simpa using he
              obtain ⟨q1, q2⟩ := clos_spec hds
              simp only [D.cells, List.all_eq_true]
              intro d hd
              obtain ⟨m, hm⟩ := List.mem_iff_getElem?.1 hd
              have hm' : m < vs.length := by rw [q1]; exact (List.getElem?_eq_some_iff.1 hm).1
              have hv := q2 m _ d (List.getElem?_eq_getElem hm') hm
              have ho := List.all_eq_true.1 h3 vs[m] (by simp [V.cells])
              revert hv ho
              generalize vs[m] = v
              intro hv ho
              cases v with
              | d y => simp [V.clo] at hv; subst hv; exact ho
              | nils => simp [V.clo] at hv; subst hv; rfl
              | _ => simp [V.clo] at hv
            · cases he
          | func f vs =>
            simp only [V.toD] at he
            split at he
            · obtain rfl : D.func _ _ = e := by simpa using he
              simp [D.cells, V.one]
            · cases he
          | _ => simp [V.toD] at he
        | succ k =>
          obtain ⟨q1, q2⟩ := g2 k p e' (by simpa using hp) (by simpa using he')
          exact ⟨by omega, q2⟩
      · cases h
    · cases h

end
end Go.Proofs.Ytaejlmengfahnaa.AM

set_option linter.all false
namespace Go.Proofs.Ytaejlmengfahnaa.AM
open Go Go.RowKit

section
variable {P : Program} {E : Env} {C : Ctx} {φ φ' : Nat → Option Loc} {S S' : Nat → Prop} {H H' : Heap} {w w' : World} {T : Tmps} {a : Act}

theorem fill_all {sz : Nat} : ∀ (parts : List (Nat × Value)) (i : Nat) (A : Array Value), (∀ (k : Nat) (p : Nat × Value), parts[k]? = some p → p.1 = i + k ∧ p.2.cells.size = sz) → A.size = (i + parts.length) * sz →
    Instr.fill (fun i => some (i * sz, sz)) A parts = some (A.toList.take (i * sz) ++ (parts.map (·.2.cells.toList)).flatten).toArray
  | [], i, A, _, hA => by
    simp [Instr.fill] at hA ⊢
    rw [List.take_of_length_le (by simp [hA])]
  | (j, v) :: r, i, A, h, hA => by
    obtain ⟨h1, h2⟩ := h 0 (j, v) rfl
    simp at h1 h2; subst h1
    have hle : j * sz + sz ≤ A.size := by rw [hA]; simp [Nat.add_mul]
    rw [fill_step rfl h2 hle]
    rw [fill_all r (j + 1) _ (fun k p hp => by obtain ⟨q1, q2⟩ := h (k + 1) p (by simpa using hp); exact ⟨by omega, q2⟩) (by
      rw [List.size_toArray, splice_length _ _ _ (by simp [h2]; omega)]; simp [hA]; congr 1; omega)]
    simp only [List.map_cons, List.flatten_cons]
    congr 2
    have : (splice A.toList (j * sz) v.cells.toList).take ((j + 1) * sz) = A.toList.take (j * sz) ++ v.cells.toList := by
      unfold splice
      rw [List.take_append_of_le_length (by simp [h2, Nat.add_mul]; omega)]
      exact List.take_of_length_le (by simp [h2, Nat.add_mul]; omega)
    rw [this]; simp

theorem BR.dat_flat {id : Nat} {L : Loc} {sz : Nat} {els : List D} {cs : Array Value} {t : Nat} {vals : List Value} (hL : φ id = some L) (hat : At w L cs t) (hS : ¬ S L.blk)
    (hlen : vals.length = els.length) (hsz : ∀ e ∈ els, e.cells.length = sz) (hvs : ∀ v ∈ vals, v.cells.size = sz)
    (hrel : ∀ (i : Nat) (e : D) (v : Value), els[i]? = some e → vals[i]? = some v → ∀ (k : Nat) (d : D) (y : Value), e.cells[k]? = some d → v.cells[k]? = some y → RD S w d y)
    (hcs : ∀ (k : Nat) (y : Value), (vals.map (·.cells.toList)).flatten[k]? = some y → cs[L.off + k]? = some y) (hfit : L.off + els.length * sz ≤ cs.size) : BR φ S H w id (.dat false sz els) := by
  refine .inr ⟨L, cs, t, hL, hat, hsz, hfit, fun i e k x he hx => ?_, by simpa using hS⟩
  have hi : i < vals.length := by rw [hlen]; exact (List.getElem?_eq_some_iff.1 he).1
  have hk : k < sz := by rw [← hsz e (List.mem_of_getElem? he)]; exact (List.getElem?_eq_some_iff.1 hx).1
  have hks : k < vals[i].cells.size := by rw [hvs _ (List.getElem_mem hi)]; exact hk
  have hfl := flat_get sz (vals.map (·.cells.toList)) (fun l hl => by
    obtain ⟨v, hv, rfl⟩ := List.mem_map.1 hl
    simpa using hvs v hv) i k vals[i].cells.toList (by simp [hi]) hk
  rw [show vals[i].cells.toList[k]? = some vals[i].cells[k] by simp [hks]] at hfl
  exact ⟨_, hcs _ _ hfl, hrel i e vals[i] he (by simp [hi]) k x _ hx (by simp [hks])⟩

theorem out_buildSlice {o : Oper} {t n nid : Nat} {parts : Array (Nat × Operand)} {eti : TI} {els : List D} (ho : o.op = .buildSlice t n parts) (hE : EOk P E) (hs : sliceOf E t = some eti)
    (hp : partsD T eti.size 0 parts.toList = some els) (hn : els.length = n) (hbig : n * eti.size ≤ 1000) (hu : hget H nid = .unborn) (hH : HRel C φ S H w) (hT : TRel φ S H w T a) :
    Out P C φ S H w o a (.own nid 0 n) (hput H nid (.dat false eti.size els)) := by
  obtain ⟨e, h1, h2, _⟩ := sliceOf_spec hE hs
  obtain ⟨i, z, d, g1, g2, g3, g4, g5, g5', g6, g7, g8, g9⟩ := h2.facts
  obtain ⟨q1, q2⟩ := partsD_spec hT parts.toList 0 els hp
  have hvals : ∀ (k : Nat) (p : Nat × Operand) (e : D), parts.toList[k]? = some p → els[k]? = some e → (a.eval p.2).cells.size = eti.size := fun k p e hk he => by
    obtain ⟨_, r2, r3, r4⟩ := q2 k p e hk he
    rw [← (r3.cells r4).1]; exact r2
  have hfill : ∀ Z : Array Value, Instr.fill (fun i => some (i * eti.size, eti.size)) ((Array.range (n * eti.size)).map (Z[· % Z.size]!)) (parts.map fun p => (p.1, a.eval p.2)).toList = some (parts.toList.map fun p => (a.eval p.2).cells.toList).flatten.toArray := fun Z => by
    have := fill_all (sz := eti.size) (parts.toList.map fun p => (p.1, a.eval p.2)) 0 ((Array.range (n * eti.size)).map (Z[· % Z.size]!)) (fun k p hk => by
      rw [List.getElem?_map] at hk
      cases hpk : parts.toList[k]? with
      | none => simp [hpk] at hk
      | some pp =>
        simp [hpk] at hk; subst hk
        have hk' : k < els.length := by rw [← q1]; exact (List.getElem?_eq_some_iff.1 hpk).1
        obtain ⟨r1, _⟩ := q2 k pp _ hpk (List.getElem?_eq_getElem hk')
        exact ⟨r1, hvals k pp _ hpk (List.getElem?_eq_getElem hk')⟩) (by simp; rw [← hn, ← q1]; simp)
    simp only [Nat.zero_mul, List.take_zero, List.nil_append, List.map_map] at this
    rw [Array.toList_map]; exact this
  have hbig' : ¬ (n * eti.size > 2 ^ 24) := by omega
  have hrun : (execOp a.eval o).run P w = .ok (.value (.slice (some ⟨w.heap.size, 0, none⟩) n n)) (w.alloc (.cells (parts.toList.map fun p => (a.eval p.2).cells.toList).flatten.toArray e)) := by
    simp only [execOp, ho, Instr.buildSlice, Sem.run_bind, run_underlying h1, Result.andThen_ok, run_sizeOf' g1, g2]
    rw [if_neg hbig']
    by_cases h0 : n * eti.size = 0
    · rw [if_pos h0]
      simp only [Sem.run_bind, Sem.run_pure, Result.andThen_ok]
      rw [hfill #[]]
      simp only [Sem.run_bind, Sem.run_pure, Result.andThen_ok, newRow, run_newObj, World.alloc_eq]
    · rw [if_neg h0]
      simp only [Sem.run_bind, Sem.run_pure, Result.andThen_ok, run_zeroValue' g1 g4]
      rw [hfill z.cells]
      simp only [Sem.run_bind, Sem.run_pure, Result.andThen_ok, newRow, run_newObj, World.alloc_eq]
  have hcslen : (parts.toList.map fun p => (a.eval p.2).cells.toList).flatten.length = n * eti.size := by
    rw [flat_length eti.size _ (fun l hl => by
      obtain ⟨p, hp', rfl⟩ := List.mem_map.1 hl
      obtain ⟨k, hk⟩ := List.mem_iff_getElem?.1 hp'
      have hk' : k < els.length := by rw [← q1]; exact (List.getElem?_eq_some_iff.1 hk).1
      simpa using hvals k p _ hk (List.getElem?_eq_getElem hk'))]
    rw [List.length_map, q1, hn]
  obtain ⟨r1, r2, r3⟩ := hH.alloc hu (.dat false eti.size els) (parts.toList.map fun p => (a.eval p.2).cells.toList).flatten.toArray e (fun hst => by
    refine BR.dat_flat (L := ⟨w.heap.size, 0, _⟩) (vals := parts.toList.map fun p => a.eval p.2) (by simp [upd]) ⟨heap_alloc_new w _, rfl⟩ (fun h => by have := hH.low _ h; simp at this) (by simpa using q1)
      (fun e he => by
        obtain ⟨k, hk⟩ := List.mem_iff_getElem?.1 he
        have hk' : k < parts.toList.length := by rw [q1]; exact (List.getElem?_eq_some_iff.1 hk).1
        exact (q2 k _ e (List.getElem?_eq_getElem hk') hk).2.1)
      (fun v hv => by
        obtain ⟨p, hp', rfl⟩ := List.mem_map.1 hv
        obtain ⟨k, hk⟩ := List.mem_iff_getElem?.1 hp'
        have hk' : k < els.length := by rw [← q1]; exact (List.getElem?_eq_some_iff.1 hk).1
        exact hvals k p _ hk (List.getElem?_eq_getElem hk'))
      (fun i e v he hv k d y hd hy => by
        rw [List.getElem?_map] at hv
        cases hpk : parts.toList[i]? with
        | none => simp [hpk] at hv
        | some p =>
          simp [hpk] at hv; subst hv
          obtain ⟨_, _, s3, s4⟩ := q2 i p e hpk he
          exact ((s3.cells s4).2 k d y hd hy).keep hst.keepS)
      (fun k y hy => by simpa [List.map_map, Function.comp_def] using hy) (by simp only [List.size_toArray, hcslen, hn]; omega))
  refine ⟨_, _, _, .inl hrun, .own nid 0 n n n _ (by rw [hget_hput]; simp) (fun fz sz els' hg => ?_), r1, r2, r3⟩
  rw [hget_hput] at hg; simp at hg
  obtain ⟨rfl, rfl, rfl⟩ := hg
  exact ⟨by omega, rfl, Nat.le_refl _, .inr ⟨⟨w.heap.size, 0, (parts.toList.map fun p => (a.eval p.2).cells.toList).flatten.toArray.size⟩, by simp only [upd, if_true], by simp, by simp only [List.size_toArray, hcslen]; simp⟩⟩

theorem elems_rel0 {v : V} {c : Value} {ys : List D} (hnf : ∀ id off len k, v ≠ .full id off len k) (hH : HRel C φ S H w) (h : RV φ S H w v c) (hl : elems H v = some ys) :
    ∃ (A : Option Addr) (cap : Nat), c = .slice A ys.length cap ∧ ∃ (sz : Nat) (vals : List Value), (∀ e ∈ ys, e.cells.length = sz) ∧ vals.length = ys.length * sz ∧
      (ys ≠ [] → ∃ B o, A = some ⟨B, o, none⟩ ∧ ∀ (j : Nat) (y : Value), vals[j]? = some y → w.cell? ⟨B, o + j, none⟩ = some y) ∧
      (∀ (i : Nat) (e : D) (k : Nat) (x : D), ys[i]? = some e → e.cells[k]? = some x → ∃ y, vals[i * sz + k]? = some y ∧ RD S w x y) := by
  have mk : ∀ (ys : List D) (sz : Nat) (f : Nat → Value), (∀ e ∈ ys, e.cells.length = sz) → ∀ (i : Nat) (e : D) (k : Nat) (x : D), ys[i]? = some e → e.cells[k]? = some x → ((List.range (ys.length * sz)).map f)[i * sz + k]? = some (f (i * sz + k)) := by
    intro ys sz f hsz i e k x he hx
    have hi : i < ys.length := (List.getElem?_eq_some_iff.1 he).1
    have hk : k < sz := by rw [← hsz e (List.mem_of_getElem? he)]; exact (List.getElem?_eq_some_iff.1 hx).1
    have : (i + 1) * sz ≤ ys.length * sz := Nat.mul_le_mul_right _ hi
    rw [Nat.add_mul, Nat.one_mul] at this
    rw [List.getElem?_map, List.getElem?_range (by omega)]
    rfl
  have cellOf : ∀ (ys : List D) (sz : Nat) (f : Nat → Value) (B o : Nat), (∀ e ∈ ys, e.cells.length = sz) → (∀ (i : Nat) (e : D) (k : Nat) (x : D), ys[i]? = some e → e.cells[k]? = some x → w.cell? ⟨B, o + (i * sz + k), none⟩ = some (f (i * sz + k))) →
      ∀ (j : Nat) (y : Value), ((List.range (ys.length * sz)).map f)[j]? = some y → w.cell? ⟨B, o + j, none⟩ = some y := by
    intro ys sz f B o hsz hc j y hj
    have hlt : j < ys.length * sz := by have := (List.getElem?_eq_some_iff.1 hj).1; simpa using this
    rw [List.getElem?_map, List.getElem?_range hlt] at hj
    simp at hj; subst hj
    have hpos : 0 < sz := by
      rcases Nat.eq_zero_or_pos sz with h0 | h0
      · subst h0; simp at hlt
      · exact h0
    have hq : j / sz < ys.length := (Nat.div_lt_iff_lt_mul hpos).2 hlt
    have hm : j % sz < sz := Nat.mod_lt _ hpos
    have he := hsz _ (List.getElem_mem hq)
    have := hc (j / sz) ys[j / sz] (j % sz) _ (List.getElem?_eq_getElem hq) (List.getElem?_eq_getElem (by rw [he]; exact hm))
    rwa [show j / sz * sz + j % sz = j by rw [Nat.mul_comm]; exact Nat.div_add_mod j sz] at this
  cases h with
  | d x c h =>
    cases h with
    | vec els A cap B o sz m h1 h2 h3 h4 h5 =>
      simp [elems] at hl; subst hl
      refine ⟨A, cap, rfl, sz, (List.range (els.length * sz)).map m, h3, by simp, fun hne => ⟨B, o, h2 hne, cellOf els sz m B o h3 (fun i e k x he hx => (h4 i e k x he hx).2)⟩, fun i e k x he hx => ⟨_, mk els sz m h3 i e k x he hx, h5 i e k x he hx⟩⟩
    | _ => simp [elems] at hl
  | nils => simp [elems] at hl; subst hl; exact ⟨none, 0, rfl, 0, [], by simp, by simp, fun h => absurd rfl h, fun i e k x he => by simp at he⟩
  | own id off len l cap A hu h =>
    simp only [elems] at hl
    split at hl
    · rename_i fz sz els hg
      simp at hl; subst hl
      obtain ⟨r1, rfl, r2, r3⟩ := h fz sz els hg
      have hlen : ((els.drop off).take l).length = l := by simp; omega
      have hget : ∀ (i : Nat) (e : D), ((els.drop off).take l)[i]? = some e → els[off + i]? = some e := fun i e he => by
        rw [List.getElem?_take] at he
        split at he
        · rwa [List.getElem?_drop] at he
        · cases he
      have hb := hH.blk id
      rw [hg] at hb
      rcases hb with ⟨hn, _⟩ | ⟨L, cs, t, h1, h2, h3, h4, h5, h6⟩
      · subst hn
        simp at r1
        obtain ⟨rfl, rfl⟩ := r1
        exact ⟨A, cap, rfl, 0, [], by simp, by simp, fun h => absurd (by simp) h, fun i e k x he => by simp at he⟩
      · obtain ⟨f, hf⟩ : ∃ f : Nat → Value, f = fun k => cs.getD (L.off + (off * sz + k)) undef := ⟨_, rfl⟩
        have hsz : ∀ e ∈ (els.drop off).take l, e.cells.length = sz := fun e he => h3 e (List.mem_of_mem_drop (List.mem_of_mem_take he))
        have hcell : ∀ (i : Nat) (e : D) (k : Nat) (x : D), ((els.drop off).take l)[i]? = some e → e.cells[k]? = some x → cs[L.off + (off * sz + (i * sz + k))]? = some (f (i * sz + k)) ∧ RD S w x (f (i * sz + k)) := fun i e k x he hx => by
          obtain ⟨c, hc1, hc2⟩ := h5 (off + i) e k x (hget i e he) hx
          rw [Nat.add_mul, Nat.add_assoc] at hc1
          rw [hf]; simp [hc1, hc2]
        refine ⟨A, cap, by rw [hlen], sz, (List.range (((els.drop off).take l).length * sz)).map f, hsz, by simp, fun hne => ?_, fun i e k x he hx => ⟨_, mk _ sz f hsz i e k x he hx, (hcell i e k x he hx).2⟩⟩
        rcases r3 with r3 | ⟨L', hL', rfl, r4⟩
        · exfalso; apply hne; apply List.eq_nil_of_length_eq_zero; omega
        · rw [h1] at hL'; cases hL'
          refine ⟨L.blk, L.off + off * sz, rfl, cellOf _ sz f L.blk (L.off + off * sz) hsz (fun i e k x he hx => ?_)⟩
          rw [cell_of_row w L.blk _ cs t (0, 0) h2.heap, Nat.add_assoc]
          exact (hcell i e k x he hx).1
    · cases hl
  | full id off len k A hu h => exact absurd rfl (hnf id off len k)
  | _ => simp [elems] at hl

theorem elems_rel {v : V} {c : Value} {ys : List D} (hH : HRel C φ S H w) (h : RV φ S H w v c) (hl : elems H v = some ys) :
    ∃ (A : Option Addr) (cap : Nat), c = .slice A ys.length cap ∧ ∃ (sz : Nat) (vals : List Value), (∀ e ∈ ys, e.cells.length = sz) ∧ vals.length = ys.length * sz ∧
      (ys ≠ [] → ∃ B o, A = some ⟨B, o, none⟩ ∧ ∀ (j : Nat) (y : Value), vals[j]? = some y → w.cell? ⟨B, o + j, none⟩ = some y) ∧
      (∀ (i : Nat) (e : D) (k : Nat) (x : D), ys[i]? = some e → e.cells[k]? = some x → ∃ y, vals[i * sz + k]? = some y ∧ RD S w x y) := by
  cases v with
  | full id off len k => exact elems_rel0 (v := .own id off len) (fun _ _ _ _ e => by cases e) hH h.unfull hl
  | _ => exact elems_rel0 (fun _ _ _ _ e => by cases e) hH h hl

end
end Go.Proofs.Ytaejlmengfahnaa.AM

set_option linter.all false
namespace Go.Proofs.Ytaejlmengfahnaa.AM
open Go Go.RowKit

section
variable {P : Program} {E : Env} {C : Ctx} {φ φ' : Nat → Option Loc} {S S' : Nat → Prop} {H H' : Heap} {w w' : World} {T : Tmps} {a : Act}

theorem HRel.app (hH : HRel C φ S H w) {id nid : Nat} {fz : Bool} {sz : Nat} {els : List D} (hg : hget H id = .dat fz sz els) (hu : hget H nid = .unborn) (b : Blk) (Lo : Option Loc) {w' : World}
    (hos : w'.os = w.os) (htape : w'.tape = w.tape) (hout : w'.output = w.output) (hsz : w.heap.size ≤ w'.heap.size)
    (hkS : ∀ B, S B → w'.heap[B]? = w.heap[B]?) (hk : ∀ i L, i ≠ id → φ i = some L → w'.heap[L.blk]? = w.heap[L.blk]?) (hkp : ∀ B, B < C.n0 → ¬ C.O B → w'.heap[B]? = w.heap[B]?)
    (hLo : ∀ L', Lo = some L' → (∃ L, φ id = some L ∧ L'.blk = L.blk) ∨ w.heap.size ≤ L'.blk)
    (hb : Step φ S H w (upd (upd φ id none) nid Lo) S (hput (hput H id .dead) nid b) w' → BR (upd (upd φ id none) nid Lo) S (hput (hput H id .dead) nid b) w' nid b) :
    HRel C (upd (upd φ id none) nid Lo) S (hput (hput H id .dead) nid b) w' ∧ Step φ S H w (upd (upd φ id none) nid Lo) S (hput (hput H id .dead) nid b) w' ∧ Kp C w w' := by
  have hne : nid ≠ id := fun e => by rw [e, hg] at hu; cases hu
  have hs : Step φ S H w (upd (upd φ id none) nid Lo) S (hput (hput H id .dead) nid b) w' := ⟨fun B h _ => ⟨h, hkS B h⟩, fun i hi => by
    have hin : i ≠ nid := fun e => hi (by rw [e]; exact hu)
    rw [hget_hput, if_neg hin, hget_hput]
    by_cases e : i = id
    · rw [if_pos e]; exact .inl rfl
    · rw [if_neg e]
      by_cases hd : hget H i = .dead
      · exact .inl hd
      · exact .inr ⟨.refl hi hd, by simp [upd, hin, e]⟩⟩
  refine ⟨⟨Nat.le_trans hH.n0 hsz, ?_, hH.vis, ?_, ?_, fun B hB => Nat.lt_of_lt_of_le (hH.low B hB) hsz⟩, hs, ⟨hos, htape, hout, hsz, hkp⟩⟩
  · intro i L h
    by_cases e : i = nid
    · subst e; simp [upd] at h
      rcases hLo L h with ⟨L0, h0, e⟩ | h0
      · rw [e]; exact hH.own id L0 h0
      · exact .inr (Nat.le_trans hH.n0 h0)
    · by_cases e2 : i = id
      · subst e2; simp [upd, e] at h
      · simp [upd, e, e2] at h; exact hH.own i L h
  · have key : ∀ i L L', i ≠ nid → i ≠ id → φ i = some L → Lo = some L' → L.blk = L'.blk → False := fun i L L' h1 h2 h3 h4 h5 => by
      rcases hLo L' h4 with ⟨L0, h0, e⟩ | h0
      · exact h2 (hH.inj i id L L0 h3 h0 (h5.trans e))
      · have := hH.lt h3; omega
    intro i i' L L' h h' e
    by_cases h1 : i = nid <;> by_cases h2 : i' = nid
    · rw [h1, h2]
    · by_cases h3 : i' = id
      · subst h3; simp [upd, h2] at h'
      · subst h1; simp [upd] at h; simp [upd, h2, h3] at h'
        exact (key i' L' L h2 h3 h' h e.symm).elim
    · by_cases h3 : i = id
      · subst h3; simp [upd, h1] at h
      · subst h2; simp [upd] at h'; simp [upd, h1, h3] at h
        exact (key i L L' h1 h3 h h' e).elim
    · by_cases h3 : i = id
      · subst h3; simp [upd, h1] at h
      · by_cases h4 : i' = id
        · subst h4; simp [upd, h2] at h'
        · simp [upd, h1, h3] at h; simp [upd, h2, h4] at h'; exact hH.inj i i' L L' h h' e
  · intro i
    rw [hget_hput]
    by_cases h1 : i = nid
    · rw [if_pos h1, h1]; exact hb hs
    · rw [if_neg h1, hget_hput]
      by_cases h2 : i = id
      · rw [if_pos h2]; simp [BR, upd, h2]
        intro e; exact absurd e.symm hne
      · rw [if_neg h2]
        exact (hH.blk i).keep hs (by simp [upd, h1, h2]) (fun L hL => ⟨hk i L h2 hL, Iff.rfl⟩)

theorem HRel.virt (hH : HRel C φ S H w) {nid : Nat} (hu : hget H nid = .unborn) (sz : Nat) : HRel C φ S (hput H nid (.dat false sz [])) w ∧ Step φ S H w φ S (hput H nid (.dat false sz [])) w := by
  have hφ : φ nid = none := by have := hH.blk nid; rw [hu] at this; exact this
  have hs : Step φ S H w φ S (hput H nid (.dat false sz [])) w := ⟨.refl _ _, fun i hi => by
    have hin : i ≠ nid := fun e => hi (by rw [e]; exact hu)
    rw [hget_hput, if_neg hin]
    by_cases hd : hget H i = .dead
    · exact .inl hd
    · exact .inr ⟨.refl hi hd, rfl⟩⟩
  refine ⟨⟨hH.n0, hH.own, hH.vis, hH.inj, fun i => ?_, hH.low⟩, hs⟩
  rw [hget_hput]
  by_cases e : i = nid
  · rw [if_pos e, e]; exact .inl ⟨rfl, hφ⟩
  · rw [if_neg e]; exact (hH.blk i).keep hs rfl (fun L _ => ⟨rfl, Iff.rfl⟩)

theorem run_append_call {o : Oper} {c : Call} {x y : Operand} {t u : Nat} (ho : o.op = .call c) (hc : c.callee = .builtin .append) (hargs : c.args.toList = [x, y]) (htys : c.argTypes.toList = [t, u]) {r : Value}
    (h : (Builtin.append_ #[t, u] o.type #[a.eval x, a.eval y]).run P w = .ok r w') : (execOp a.eval o).run P w = .ok (.value r) w' := by
  have e1 : c.args = #[x, y] := by rw [← hargs]
  have e2 : c.argTypes = #[t, u] := by rw [← htys]
  simp [execOp, ho, resolve, hc, e1, e2, invoke, builtin, h]

theorem run_append_zero {t ty e : TypeId} {i : TypeInfo} (ht : P.underlying t = some (.slice e)) (hi : P.info? e = some i) (A B : Option Addr) (len cap c : Nat) (hle : len ≤ cap) :
    (Builtin.append_ #[t, t] ty #[.slice A len cap, .slice B 0 c]).run P w = .ok (.slice A len cap) w := by
  have hf : (Builtin.firstCells i.size 0 (.slice B 0 c)).run P w = .ok #[] w := by
    cases B with
    | none => simp [Builtin.firstCells]
    | some b => simp [Builtin.firstCells, loadCells, loadCellsFrom]
  cases A with
  | none => simp [Builtin.append_, run_underlying ht, sizeOf, typeInfo, hi, Builtin.lenOf, hle, hf]
  | some b => simp [Builtin.append_, run_underlying ht, sizeOf, typeInfo, hi, Builtin.lenOf, hle, hf, storeCells]

theorem run_append_in {t ty e : TypeId} {i : TypeInfo} (ht : P.underlying t = some (.slice e)) (hi : P.info? e = some i) {g o len cap n c : Nat} {cur : Array Value} {tt : TypeId} (hg : w.heap[g]? = some (.cells cur tt (0, 0)))
    {b : Addr} {news : List Value} (hl : news.length = n * i.size) (hnews : ∀ j u, news[j]? = some u → w.cell? (b.add j) = some u) (h1 : ∀ u ∈ news, u.oneCell' = true)
    (hroom : len + n ≤ cap) (hfit : o + len * i.size + news.length ≤ cur.size) :
    (Builtin.append_ #[t, t] ty #[.slice (some ⟨g, o, none⟩) len cap, .slice (some b) n c]).run P w =
      .ok (.slice (some ⟨g, o, none⟩) (len + n) cap) (w.setRow g (splice cur.toList (o + len * i.size) news).toArray) := by
  have hf := run_firstCells_some (P := P) w i.size n b n c news hl hnews
  have hst := run_storeCells_at P g (o + len * i.size) tt news 0 cur w hg (by simpa using hfit) h1
  simp only [Nat.add_zero] at hst
  simp [Builtin.append_, run_underlying ht, sizeOf, typeInfo, hi, Builtin.lenOf, hroom, hf, addr_add, hst, splice]

structure Flat (S : Nat → Prop) (w : World) (sz : Nat) (es : List D) (vals : List Value) : Prop where
  wide : ∀ e ∈ es, e.cells.length = sz
  len : vals.length = es.length * sz
  at_ : ∀ (i : Nat) (e : D) (k : Nat) (x : D), es[i]? = some e → e.cells[k]? = some x → ∃ y, vals[i * sz + k]? = some y ∧ RD S w x y

theorem Flat.append {sz : Nat} {xs ys : List D} {us vs : List Value} (h : Flat S w sz xs us) (h' : Flat S w sz ys vs) : Flat S w sz (xs ++ ys) (us ++ vs) := by
  refine ⟨fun e he => ?_, by simp [h.len, h'.len, Nat.add_mul], fun i e k x he hx => ?_⟩
  · rcases List.mem_append.1 he with he | he
    · exact h.wide e he
    · exact h'.wide e he
  · rw [List.getElem?_append] at he
    split at he
    · rename_i hi
      obtain ⟨y, hy, hr⟩ := h.at_ i e k x he hx
      exact ⟨y, by rw [List.getElem?_append, if_pos (List.getElem?_eq_some_iff.1 hy).1]; exact hy, hr⟩
    · rename_i hi
      obtain ⟨y, hy, hr⟩ := h'.at_ _ e k x he hx
      have hle : xs.length * sz ≤ i * sz := Nat.mul_le_mul_right _ (by omega)
      have e1 : i * sz + k - us.length = (i - xs.length) * sz + k := by rw [h.len, Nat.sub_mul]; omega
      refine ⟨y, ?_, hr⟩
      rw [List.getElem?_append, if_neg (by rw [h.len]; omega), e1]; exact hy

theorem Flat.keep {sz : Nat} {es : List D} {vals : List Value} (hk : KeepS S w S' w') (h : Flat S w sz es vals) : Flat S' w' sz es vals :=
  ⟨h.wide, h.len, fun i e k x he hx => by obtain ⟨y, hy, hr⟩ := h.at_ i e k x he hx; exact ⟨y, hy, hr.keep hk⟩⟩

theorem Flat.one {sz : Nat} {es : List D} {vals : List Value} (h : Flat S w sz es vals) (hok : ∀ e ∈ es, okEl sz e = true) : ∀ v ∈ vals, v.oneCell' = true := by
  intro v hv
  obtain ⟨j, hj⟩ := List.mem_iff_getElem?.1 hv
  have hlt : j < es.length * sz := by rw [← h.len]; exact (List.getElem?_eq_some_iff.1 hj).1
  have hpos : 0 < sz := by
    rcases Nat.eq_zero_or_pos sz with h0 | h0
    · rw [h0] at hlt; simp at hlt
    · exact h0
  have hq : j / sz < es.length := (Nat.div_lt_iff_lt_mul hpos).2 hlt
  have he := h.wide _ (List.getElem_mem hq)
  have hm : j % sz < es[j / sz].cells.length := by rw [he]; exact Nat.mod_lt _ hpos
  obtain ⟨y, hy, hr⟩ := h.at_ (j / sz) es[j / sz] (j % sz) _ (List.getElem?_eq_getElem hq) (List.getElem?_eq_getElem hm)
  rw [show j / sz * sz + j % sz = j by rw [Nat.mul_comm]; exact Nat.div_add_mod j sz, hj] at hy
  cases hy
  have hone := hok _ (List.getElem_mem hq)
  simp only [okEl, Bool.and_eq_true] at hone
  exact (RV.d (φ := fun _ => none) (S := S) (H := []) (w := w) _ _ hr).one_inv (List.all_eq_true.1 hone.2 _ (List.getElem_mem hm))

theorem out_append_own {o : Oper} {c : Call} {x y : Operand} {t nid id off len sz : Nat} {eti : TI} {els ys : List D} (ho : o.op = .call c) (hc : c.callee = .builtin .append) (hargs : c.args.toList = [x, y]) (htys : c.argTypes.toList = [t, t])
    (hE : EOk P E) (hs : sliceOf E t = some eti) (hx : ev T x = .own id off len) (hg : hget H id = .dat false sz els) (hsz : sz = eti.size) (hy : elems H (ev T y) = some ys) (hb1 : 1 ≤ eti.bytes)
    (hbytes : (len + ys.length) * eti.bytes ≤ 140737488355328) (hok : ∀ e ∈ ys, okEl eti.size e = true) (hu : hget H nid = .unborn) (hH : HRel C φ S H w) (hT : TRel φ S H w T a) :
    Out P C φ S H w o a (.own nid 0 (len + ys.length)) (hput (hput H id .dead) nid (.dat false sz ((els.drop off).take len ++ ys))) := by
  obtain ⟨e, h1, h2, _⟩ := sliceOf_spec hE hs
  obtain ⟨i, z, d, g1, g2, g3, g4, g5, g5', g6, g7, g8, g9⟩ := h2.facts
  have hne : nid ≠ id := fun e => by rw [e, hg] at hu; cases hu
  have hsame : SameShape (.dat false sz els) (.dat false sz els) := ⟨rfl, Nat.le_refl _⟩
  subst hsz
  have hx' := ev_rel hT x
  rw [hx] at hx'
  have hy' := ev_rel hT y
  obtain ⟨B, cy, ey, szy, vals, k1, k2, k3, k4⟩ := elems_rel hH hy' hy
  generalize hcx : a.eval x = cx at hx'
  have hlenys : ∀ e ∈ ys, e.cells.length = eti.size := fun e he => by have := hok e he; simp [okEl] at this; exact this.1
  have honeys : ∀ e ∈ ys, ∀ d ∈ e.cells, (V.d d).one = true := fun e he => by have := hok e he; simp [okEl] at this; exact this.2
  cases hx' with | own _ _ _ l cap A hub hh =>
    obtain ⟨r1, rfl, r2, r3⟩ := hh false eti.size els hg
    have hget : ∀ (j : Nat) (e : D), ((els.drop off).take l)[j]? = some e → els[off + j]? = some e := fun j e he => by
      rw [List.getElem?_take] at he
      split at he
      · rwa [List.getElem?_drop] at he
      · cases he
    have hlen1 : ((els.drop off).take l).length = l := by simp; omega
    have hown : ∀ {Lo : Option Loc} {A' : Option Addr} {cap' : Nat}, l + ys.length ≤ cap' → (cap' = 0 ∨ ∃ L, Lo = some L ∧ A' = some ⟨L.blk, L.off, none⟩ ∧ L.off + cap' * eti.size ≤ L.n) →
        RV (upd (upd φ id none) nid Lo) S (hput (hput H id .dead) nid (.dat false eti.size ((els.drop off).take l ++ ys))) w (.own nid 0 (l + ys.length)) (.slice A' (l + ys.length) cap') := fun {Lo A' cap'} hle hcap => by
      refine .own _ _ _ _ _ _ (by rw [hget_hput]; simp) (fun fz sz' els' hg' => ?_)
      rw [hget_hput] at hg'; simp at hg'
      obtain ⟨rfl, rfl, rfl⟩ := hg'
      refine ⟨by simp; omega, rfl, hle, ?_⟩
      rcases hcap with h | ⟨L, hL, hA, hfit⟩
      · exact .inl h
      · exact .inr ⟨L, by simp [upd, hL], by simp [hA], by simpa using hfit⟩
    have hbr := hH.blk id
    rw [hg] at hbr
    by_cases hn0 : ys.length = 0
    · -- nothing is appended
      have hys : ys = [] := List.eq_nil_of_length_eq_zero hn0
      subst hys
      have hrun := run_append_call (w := w) ho hc hargs htys (by rw [hcx, ey]; exact run_append_zero h1 g1 A B l cap cy r2)
      simp only [List.length_nil, Nat.add_zero, List.append_nil] at hown ⊢
      rcases r3 with hcap | ⟨L, hL, rfl, hfit⟩
      · -- no room: no block
        have hl0 : l = 0 := by omega
        subst hl0
        obtain ⟨q1, q2, q3⟩ := hH.app hg hu (.dat false eti.size ((els.drop off).take 0)) none (w' := w) rfl rfl rfl (Nat.le_refl _) (fun _ _ => rfl) (fun _ _ _ _ => rfl) (fun _ _ _ => rfl) (fun L' h => by cases h)
          (fun _ => .inl ⟨by simp, by simp [upd]⟩)
        exact ⟨_, _, _, .inl hrun, hown (Nat.zero_le _) (.inl hcap), q1, q2, q3⟩
      · obtain ⟨q1, q2, q3⟩ := hH.app hg hu (.dat false eti.size ((els.drop off).take l)) (some ⟨L.blk, L.off + off * eti.size, L.n⟩) (w' := w) rfl rfl rfl (Nat.le_refl _) (fun _ _ => rfl) (fun _ _ _ _ => rfl) (fun _ _ _ => rfl)
          (fun L' h => by cases h; exact .inl ⟨L, hL, rfl⟩)
          (fun hst => by
            rcases hbr with ⟨hn, hnone⟩ | ⟨L', cs, t', s1, s2, s3, s4, s5, s6⟩
            · rw [hL] at hnone; cases hnone
            · rw [hL] at s1; cases s1
              refine .inr ⟨⟨L.blk, L.off + off * eti.size, L.n⟩, cs, t', by simp [upd], ⟨s2.heap, s2.size⟩, fun e he => s3 e (List.mem_of_mem_drop (List.mem_of_mem_take he)), ?_, fun j e k x he hxx => ?_, s6⟩
              · rw [hlen1]
                have : (off + l) * eti.size ≤ els.length * eti.size := Nat.mul_le_mul_right _ r1
                rw [Nat.add_mul] at this
                show L.off + off * eti.size + l * eti.size ≤ cs.size
                omega
              · obtain ⟨c', hc1, hc2⟩ := s5 (off + j) e k x (hget j e he) hxx
                refine ⟨c', ?_, hc2.keep hst.keepS⟩
                rw [Nat.add_mul, Nat.add_assoc] at hc1
                show cs[L.off + off * eti.size + (j * eti.size + k)]? = some c'
                rw [Nat.add_assoc]; exact hc1)
        exact ⟨_, _, _, .inl hrun, hown r2 (.inr ⟨_, rfl, rfl, by rw [Nat.add_mul] at hfit; show L.off + off * eti.size + cap * eti.size ≤ L.n; omega⟩), q1, q2, q3⟩
    · have hyne : ys ≠ [] := fun e => hn0 (by simp [e])
      obtain ⟨By, oy, hBy, hcells⟩ := k3 hyne
      obtain ⟨e0, he0⟩ := List.exists_mem_of_ne_nil ys hyne
      have hszy : szy = eti.size := by rw [← k1 e0 he0]; exact hlenys e0 he0
      subst hszy
      subst hBy
      have hnews : ∀ (j : Nat) (u : Value), vals[j]? = some u → w.cell? ((⟨By, oy, none⟩ : Addr).add j) = some u := fun j u hj => by rw [addr_add]; exact hcells j u hj
      have hflat : Flat S w eti.size ys vals := ⟨hlenys, k2, k4⟩
      have hone := hflat.one hok
      by_cases hroom : l + ys.length ≤ cap
      · -- in place
        rcases r3 with hcap | ⟨L, hL, rfl, hfit⟩
        · omega
        rcases hbr with ⟨hn, hnone⟩ | ⟨L', cs, t', s1, s2, s3, s4, s5, s6⟩
        · rw [hL] at hnone; cases hnone
        rw [hL] at s1; cases s1
        have hmul : (l + ys.length) * eti.size ≤ cap * eti.size := Nat.mul_le_mul_right _ hroom
        rw [Nat.add_mul] at hmul
        rw [Nat.add_mul, s2.size] at hfit
        have hfit' : L.off + off * eti.size + l * eti.size + vals.length ≤ cs.size := by rw [k2]; omega
        have hrun := run_append_call (w := w) ho hc hargs htys (by rw [hcx, ey]; exact run_append_in (cap := cap) h1 g1 s2.heap (by rw [k2, g2]) hnews hone hroom (by rw [g2]; exact hfit'))
        rw [g2] at hrun
        have hS : ¬ S L.blk := fun h => by simpa using s6.1 h
        have hsz' : (splice cs.toList (L.off + off * eti.size + l * eti.size) vals).toArray.size = cs.size := by
          rw [List.size_toArray, splice_length _ _ _ (by simpa using hfit')]; simp
        obtain ⟨q1, q2, q3⟩ := hH.app hg hu (.dat false eti.size ((els.drop off).take l ++ ys)) (some ⟨L.blk, L.off + off * eti.size, L.n⟩) (w' := w.setRow L.blk (splice cs.toList (L.off + off * eti.size + l * eti.size) vals).toArray)
          rfl rfl rfl (by simp) (fun B hB => setRow_other w L.blk B _ (fun e => hS (e ▸ hB))) (fun i L2 hi hL2 => setRow_other w L.blk _ _ (fun e => hi (hH.inj i id L2 L hL2 hL e)))
          (fun B hB hO => setRow_other w L.blk B _ (fun e => by rcases hH.own id L hL with h | h <;> first | exact hO (e ▸ h) | omega))
          (fun L' h => by cases h; exact .inl ⟨L, hL, rfl⟩)
          (fun hst => by
            refine .inr ⟨⟨L.blk, L.off + off * eti.size, L.n⟩, _, t', by simp [upd], ⟨setRow_heap w L.blk cs _ t' (0, 0) s2.heap, s2.size.trans hsz'.symm⟩, fun e he => ?_, ?_, fun i e k x he hx => ?_, s6⟩
            · rcases List.mem_append.1 he with he | he
              · exact s3 e (List.mem_of_mem_drop (List.mem_of_mem_take he))
              · exact hlenys e he
            · rw [hsz', List.length_append, hlen1, Nat.add_mul]
              show L.off + off * eti.size + (l * eti.size + ys.length * eti.size) ≤ cs.size
              omega
            · show ∃ c, (splice cs.toList (L.off + off * eti.size + l * eti.size) vals).toArray[L.off + off * eti.size + (i * eti.size + k)]? = some c ∧ _
              rw [List.getElem?_toArray, splice_get _ _ _ (by simpa using hfit')]
              have hk : k < eti.size := by
                have := (List.getElem?_eq_some_iff.1 hx).1
                rcases List.mem_append.1 (List.mem_of_getElem? he) with h | h
                · rwa [s3 e (List.mem_of_mem_drop (List.mem_of_mem_take h))] at this
                · rwa [hlenys e h] at this
              rw [List.getElem?_append] at he
              split at he
              · rename_i hi
                rw [hlen1] at hi
                have : (i + 1) * eti.size ≤ l * eti.size := Nat.mul_le_mul_right _ hi
                rw [Nat.add_mul, Nat.one_mul] at this
                rw [if_neg (by omega)]
                obtain ⟨c', hc1, hc2⟩ := s5 (off + i) e k x (hget i e he) hx
                refine ⟨c', ?_, hc2.keep hst.keepS⟩
                rw [Nat.add_mul, Nat.add_assoc] at hc1
                rw [Nat.add_assoc]; simpa using hc1
              · rename_i hi
                rw [hlen1] at hi he
                obtain ⟨y', hy1, hy2⟩ := k4 (i - l) e k x he hx
                have hle : l * eti.size ≤ i * eti.size := Nat.mul_le_mul_right _ (by omega)
                rw [Nat.sub_mul] at hy1
                have hlt := (List.getElem?_eq_some_iff.1 hy1).1
                rw [if_pos (by omega)]
                refine ⟨y', ?_, hy2.keep hst.keepS⟩
                rw [← hy1]; congr 1; omega)
        refine ⟨_, _, _, .inl hrun, ?_, q1, q2, q3⟩
        have hv := hown (Lo := some ⟨L.blk, L.off + off * eti.size, L.n⟩) (A' := some ⟨L.blk, L.off + off * eti.size, none⟩) hroom (.inr ⟨_, rfl, rfl, by rw [s2.size]; show L.off + off * eti.size + cap * eti.size ≤ cs.size; omega⟩)
        cases hv with | own _ _ _ _ _ _ u1 u2 => exact .own _ _ _ _ _ _ u1 u2
      · -- into a new block
        have hexO : elems H (.own id off l) = some ((els.drop off).take l) := by simp [elems, hg]
        have hxr : RV φ S H w (.own id off l) (.slice A l cap) := by
          have := ev_rel hT x
          rwa [hx, hcx] at this
        obtain ⟨A0, cap0, eA, szo, olds, m1, m2, m3, m4⟩ := elems_rel hH hxr hexO
        injection eA with eA1 _ eA3
        subst eA1; subst eA3
        have hszels : ∀ e ∈ (els.drop off).take l, e.cells.length = eti.size := fun e he => by
          rcases hbr with ⟨hn, _⟩ | ⟨L', cs, t', s1, s2, s3, s4, s5, s6⟩
          · subst hn; simp at he
          · exact s3 e (List.mem_of_mem_drop (List.mem_of_mem_take he))
        have hflatO : Flat S w eti.size ((els.drop off).take l) olds := by
          by_cases h0 : (els.drop off).take l = []
          · refine ⟨hszels, ?_, fun i e k x he => by rw [h0] at he; simp at he⟩
            rw [h0] at m2 ⊢; simpa using m2
          · obtain ⟨e1, he1⟩ := List.exists_mem_of_ne_nil _ h0
            have : szo = eti.size := by rw [← m1 e1 he1]; exact hszels e1 he1
            subst this
            exact ⟨hszels, m2, m4⟩
        have hz1 : z.cells.size = i.size := g5'.trans g2.symm
        have hbound : l + ys.length ≤ 9223372036854775807 := by
          have : (l + ys.length) * 1 ≤ (l + ys.length) * eti.bytes := Nat.mul_le_mul_left _ hb1
          omega
        have hfits : Builtin.nextslicecap (l + ys.length) cap * i.bytes ≤ 281474976710656 := growslice_fits (by omega) (by rw [g3]; exact hbytes)
        have hrun : (execOp a.eval o).run P w = .ok (.value (.slice (some ⟨w.heap.size, 0, none⟩) (l + ys.length) (grownCap w (l + ys.length) cap e)))
            (w.drew.alloc (.cells (olds.toArray ++ vals.toArray ++ Builtin.zeroCells z.cells (grownCap w (l + ys.length) cap e - (l + ys.length))) e)) := by
          refine run_append_call ho hc hargs htys ?_
          rw [hcx, ey]
          cases A with
          | none =>
            rcases r3 with hcap | ⟨L, _, h, _⟩
            · have hl0 : l = 0 := by omega
              subst hl0; subst hcap
              have ho : olds = [] := List.eq_nil_of_length_eq_zero (by rw [hflatO.len]; simp)
              subst ho
              have := run_append_nil (P := P) w t o.type e i z h1 g1 g4 ⟨By, oy, none⟩ ys.length cy vals (by rw [k2, g2]) hnews (by omega) (by omega) (by rw [g3]; have := hbytes; simp only [Nat.zero_add] at this; omega)
              simpa using this
            · cases h
          | some b =>
            refine run_append_grow (P := P) w t o.type e i z h1 g1 g4 b l cap olds (by rw [hflatO.len, hlen1, g2]) (fun j v hj => ?_) ⟨By, oy, none⟩ ys.length cy vals (by rw [k2, g2]) hnews (by omega) (by omega) hfits
            have hne0 : (els.drop off).take l ≠ [] := fun h0 => by
              have := hflatO.len; rw [h0] at this; simp at this; subst this; simp at hj
            obtain ⟨Bo, oo, hBo, hco⟩ := m3 hne0
            cases hBo
            rw [addr_add]; exact hco j v hj
        have hge := grownCap_ge w (l + ys.length) cap e
        have hcssz : (olds.toArray ++ vals.toArray ++ Builtin.zeroCells z.cells (grownCap w (l + ys.length) cap e - (l + ys.length))).size = grownCap w (l + ys.length) cap e * eti.size := by
          simp only [Array.size_append, List.size_toArray, size_zeroCells, hz1, g2, hflatO.len, hlen1, k2]
          rw [← Nat.add_mul, ← Nat.add_mul]; congr 1; omega
        obtain ⟨q1, q2, q3⟩ := hH.app hg hu (.dat false eti.size ((els.drop off).take l ++ ys)) (some ⟨w.heap.size, 0, grownCap w (l + ys.length) cap e * eti.size⟩)
          (w' := w.drew.alloc (.cells (olds.toArray ++ vals.toArray ++ Builtin.zeroCells z.cells (grownCap w (l + ys.length) cap e - (l + ys.length))) e))
          rfl rfl rfl (by simp) (fun B hB => heap_alloc_old w.drew _ (by simpa using hH.low B hB)) (fun i L2 hi hL2 => heap_alloc_old w.drew _ (by simpa using hH.lt hL2))
          (fun B hB _ => heap_alloc_old w.drew _ (by have := hH.n0; simp; omega)) (fun L' h => by cases h; exact .inr (Nat.le_refl _))
          (fun hst => by
            have hfl := (hflatO.append hflat).keep hst.keepS
            refine .inr ⟨⟨w.heap.size, 0, grownCap w (l + ys.length) cap e * eti.size⟩, _, e, by simp [upd], ⟨heap_alloc_new w.drew _, hcssz.symm⟩, hfl.wide, ?_, fun i e' k x he hx => ?_, ?_⟩
            · rw [hcssz, List.length_append, hlen1]
              have : (l + ys.length) * eti.size ≤ grownCap w (l + ys.length) cap e * eti.size := Nat.mul_le_mul_right _ hge
              simpa using this
            · obtain ⟨y', hy1, hy2⟩ := hfl.at_ i e' k x he hx
              refine ⟨y', ?_, hy2⟩
              have hlt := (List.getElem?_eq_some_iff.1 hy1).1
              rw [show (⟨w.heap.size, 0, grownCap w (l + ys.length) cap e * eti.size⟩ : Loc).off + (i * eti.size + k) = i * eti.size + k by simp]
              rw [Array.getElem?_append, if_pos (by simpa using hlt)]
              simpa using hy1
            · constructor
              · intro h; have := hH.low _ h; simp at this
              · intro h; cases h)
        refine ⟨_, _, _, .inl hrun, ?_, q1, q2, q3⟩
        have hv := hown (Lo := some ⟨w.heap.size, 0, grownCap w (l + ys.length) cap e * eti.size⟩) (A' := some ⟨w.heap.size, 0, none⟩) hge (.inr ⟨_, rfl, rfl, by simp⟩)
        cases hv with | own _ _ _ _ _ _ u1 u2 => exact .own _ _ _ _ _ _ u1 u2

end
end Go.Proofs.Ytaejlmengfahnaa.AM

set_option linter.all false
namespace Go.Proofs.Ytaejlmengfahnaa.AM
open Go Go.RowKit

section
variable {P : Program} {E : Env} {C : Ctx} {φ φ' : Nat → Option Loc} {S S' : Nat → Prop} {H H' : Heap} {w w' : World} {T : Tmps} {a : Act}

theorem Step.drew : Step φ S H w φ S H w.drew := ⟨fun _ h _ => ⟨h, rfl⟩, (Step.refl (φ := φ) (S := S) (H := H) (w := w)).keepH⟩
theorem HRel.drew (hH : HRel C φ S H w) : HRel C φ S H w.drew :=
  ⟨hH.n0, hH.own, hH.vis, hH.inj, fun id => (hH.blk id).keep Step.drew rfl (fun _ _ => ⟨rfl, Iff.rfl⟩), hH.low⟩

theorem out_append_nils {o : Oper} {c : Call} {x y : Operand} {t nid : Nat} {eti : TI} {ys : List D} (ho : o.op = .call c) (hc : c.callee = .builtin .append) (hargs : c.args.toList = [x, y]) (htys : c.argTypes.toList = [t, t])
    (hE : EOk P E) (hs : sliceOf E t = some eti) (hx : ev T x = .nils) (hy : elems H (ev T y) = some ys) (hb1 : 1 ≤ eti.bytes)
    (hbytes : ys.length * eti.bytes ≤ 140737488355328) (hok : ∀ e ∈ ys, okEl eti.size e = true) (hu : hget H nid = .unborn) (hH : HRel C φ S H w) (hT : TRel φ S H w T a) :
    Out P C φ S H w o a (.own nid 0 ys.length) (hput H nid (.dat false eti.size ys)) := by
  obtain ⟨e, h1, h2, _⟩ := sliceOf_spec hE hs
  obtain ⟨i, z, d, g1, g2, g3, g4, g5, g5', g6, g7, g8, g9⟩ := h2.facts
  have hx' := ev_rel hT x
  rw [hx] at hx'
  have hy' := ev_rel hT y
  obtain ⟨B, cy, ey, szy, vals, k1, k2, k3, k4⟩ := elems_rel hH hy' hy
  generalize hcx : a.eval x = cx at hx'
  cases hx'
  have hlenys : ∀ e ∈ ys, e.cells.length = eti.size := fun e he => by have := hok e he; simp [okEl] at this; exact this.1
  by_cases hn0 : ys.length = 0
  · have hys : ys = [] := List.eq_nil_of_length_eq_zero hn0
    subst hys
    have hrun := run_append_call (w := w) ho hc hargs htys (by rw [hcx, ey]; exact run_append_zero h1 g1 none B 0 0 cy (Nat.le_refl _))
    obtain ⟨q1, q2⟩ := hH.virt hu eti.size
    refine ⟨_, w, φ, .inl hrun, .own _ _ _ _ _ _ (by rw [hget_hput]; simp) (fun fz sz els hg => ?_), q1, q2, .refl⟩
    rw [hget_hput] at hg; simp at hg
    obtain ⟨rfl, rfl, rfl⟩ := hg
    exact ⟨by simp, rfl, Nat.le_refl _, .inl rfl⟩
  · have hyne : ys ≠ [] := fun e => hn0 (by simp [e])
    obtain ⟨By, oy, hBy, hcells⟩ := k3 hyne
    obtain ⟨e0, he0⟩ := List.exists_mem_of_ne_nil ys hyne
    have hszy : szy = eti.size := by rw [← k1 e0 he0]; exact hlenys e0 he0
    subst hszy
    subst hBy
    have hnews : ∀ (j : Nat) (u : Value), vals[j]? = some u → w.cell? ((⟨By, oy, none⟩ : Addr).add j) = some u := fun j u hj => by rw [addr_add]; exact hcells j u hj
    have hflat : Flat S w eti.size ys vals := ⟨hlenys, k2, k4⟩
    have hb63 : (ys.length : Int) ≤ 9223372036854775807 := by
      have : ys.length * 1 ≤ ys.length * eti.bytes := Nat.mul_le_mul_left _ hb1
      omega
    have happ := run_append_nil (P := P) w t o.type e i z h1 g1 g4 ⟨By, oy, none⟩ ys.length cy vals (by rw [k2, g2]) hnews (by omega) hb63 (by rw [g3]; omega)
    have hrun := run_append_call (w := w) ho hc hargs htys (by rw [hcx, ey]; exact happ)
    have hge := grownCap_ge w ys.length 0 e
    have hz1 : z.cells.size = i.size := g5'.trans g2.symm
    have hcssz : (vals.toArray ++ Builtin.zeroCells z.cells (grownCap w ys.length 0 e - ys.length)).size = grownCap w ys.length 0 e * eti.size := by
      simp only [Array.size_append, List.size_toArray, size_zeroCells, hz1, g2, k2]
      rw [← Nat.add_mul]; congr 1; omega
    have hnw : HRel C φ S H w.drew := hH.drew
    obtain ⟨q1, q2, q3⟩ := hnw.alloc hu (.dat false eti.size ys) (vals.toArray ++ Builtin.zeroCells z.cells (grownCap w ys.length 0 e - ys.length)) e (fun hst => by
      have hfl0 : Flat S w.drew eti.size ys vals := Flat.keep (S := S) (S' := S) (w := w) (w' := w.drew) (fun B h _ => ⟨h, rfl⟩) hflat
      have hfl := hfl0.keep hst.keepS
      refine .inr ⟨⟨w.heap.size, 0, _⟩, _, e, by simp [upd], ⟨heap_alloc_new w.drew _, rfl⟩, hfl.wide, ?_, fun i e' k x he hx => ?_, ?_⟩
      · rw [hcssz]
        have : ys.length * eti.size ≤ grownCap w ys.length 0 e * eti.size := Nat.mul_le_mul_right _ hge
        simpa using this
      · obtain ⟨y', hy1, hy2⟩ := hfl.at_ i e' k x he hx
        refine ⟨y', ?_, hy2⟩
        have hlt := (List.getElem?_eq_some_iff.1 hy1).1
        simp only [Nat.zero_add]
        rw [Array.getElem?_append, if_pos (by simpa using hlt)]
        simpa using hy1
      · constructor
        · intro h; have := hH.low _ h; simp at this
        · intro h; cases h)
    refine ⟨_, _, _, .inl hrun, ?_, q1, ⟨fun B h hlt => q2.keepS B h hlt, q2.keepH⟩, ⟨q3.os, q3.tape, q3.output, q3.size, q3.block⟩⟩
    refine .own _ _ _ _ _ _ (by rw [hget_hput]; simp) (fun fz sz els hg => ?_)
    rw [hget_hput] at hg; simp at hg
    obtain ⟨rfl, rfl, rfl⟩ := hg
    exact ⟨by simp, rfl, hge, .inr ⟨_, by simp only [upd, if_true]; rfl, by simp, by simp only [hcssz]; simp⟩⟩

theorem out_bool {o : Oper} {op : BinOp} {ty ty' : Nat} {x y : Operand} {b b' : Bool} {ti : TI} {r : Bool} (ho : o.op = .binOp op ty x y ty') (ht : TOk P ty ti) (hsh : ti.shape = .bool) (hx : ev T x = .d (.bool b)) (hy : ev T y = .d (.bool b'))
    (hr : (op = .eql ∧ r = (b == b')) ∨ (op = .neq ∧ r = (b != b'))) (hH : HRel C φ S H w) (hT : TRel φ S H w T a) : Out P C φ S H w o a (.d (.bool r)) H := by
  obtain ⟨i, z, d, h1, h2, h3, h4, h5, h5', h6, h7, h8, h9⟩ := ht.facts
  rw [hsh] at h8
  simp only [ShapeOk] at h8
  subst h8
  have h := ev_rel hT x
  rw [hx] at h
  have h' := ev_rel hT y
  rw [hy] at h'
  refine .quiet hH (c := .bool r) ?_ (.d _ _ (.bool _))
  have hEq : (Op.equal ty (.bool b) (.bool b')).run P w = .ok (b == b') w := run_equalIn_bool' w 9999 ty b b' h6
  rcases hr with ⟨rfl, rfl⟩ | ⟨rfl, rfl⟩ <;> simp [execOp, ho, h.bool_inv, h'.bool_inv, eqGuard_bool, binOp, hEq, bne]

theorem eqFields_run {xs ys : Array Value} : ∀ (fields : List Field) (n : Nat) (ks : List Bool) (ds es : List D) (b : Bool),
    (∀ (i : Nat) (f : Field), fields[i]? = some f → f.name ≠ "_" ∧ f.offset = n + i ∧ ((ks[i]? = some false ∧ ∃ k, P.underlying f.type = some (.int k)) ∨ (ks[i]? = some true ∧ P.underlying f.type = some .bool))) →
    fields.length = ks.length → (∀ (i : Nat) (d : D), ds[i]? = some d → ∃ c, xs[n + i]? = some c ∧ RD S w d c) → (∀ (i : Nat) (d : D), es[i]? = some d → ∃ c, ys[n + i]? = some c ∧ RD S w d c) → eqCells ks ds es = some b →
    (Op.eqFields 9999 xs ys fields).run P w = .ok b w
  | [], n, ks, ds, es, b, _, hl, _, _, he => by
    have : ks = [] := List.eq_nil_of_length_eq_zero (by simpa using hl.symm)
    subst this
    cases ds <;> cases es <;> simp [eqCells] at he
    subst he
    simp [Op.eqFields]
  | f :: fs, n, ks, ds, es, b, hf, hl, hx, hy, he => by
    cases ks with
    | nil => simp at hl
    | cons k ks =>
    cases ds with
    | nil => simp [eqCells] at he
    | cons d ds =>
      cases es with
      | nil => simp [eqCells] at he
      | cons e es =>
        simp only [eqCells] at he
        split at he
        · rename_i p q hp hq
          simp at he; subst he
          obtain ⟨f1, f2, f3⟩ := hf 0 f rfl
          obtain ⟨c, hc, hcr⟩ := hx 0 d rfl
          obtain ⟨c', hc', hcr'⟩ := hy 0 e rfl
          simp only [Nat.add_zero] at f2 hc hc'
          have ih := eqFields_run fs (n + 1) ks ds es q (fun i g hg => by obtain ⟨a1, a2, a3⟩ := hf (i + 1) g (by simpa using hg); exact ⟨a1, by omega, by simpa using a3⟩) (by simpa using hl)
            (fun i d' hd' => by have := hx (i + 1) d' (by simpa using hd'); rwa [show n + (i + 1) = n + 1 + i by omega] at this)
            (fun i d' hd' => by have := hy (i + 1) d' (by simpa using hd'); rwa [show n + (i + 1) = n + 1 + i by omega] at this) hq
          have hpart : ∀ (A : Array Value) (c : Value), A[n]? = some c → (part f.type A f.offset).run P w = .ok c w := fun A c hA => by
            have hag : (isAgg f.type).run P w = .ok false w := by
              rcases f3 with ⟨_, k, hk⟩ | ⟨_, hk⟩ <;> rw [run_isAgg' hk] <;> rfl
            simp [part, hag, f2, hA]
          have heq : (Op.equalIn 9999 f.type c c').run P w = .ok p w := by
            rcases f3 with ⟨hk0, kk, hk⟩ | ⟨hk0, hk⟩
            · simp at hk0; subst hk0
              cases d <;> cases e <;> simp only [D.scalarEq, reduceCtorEq] at hp
              split at hp
              · rename_i hkk; subst hkk; simp at hp; subst hp; cases hcr; cases hcr'
                exact run_equalIn_int w 9998 f.type _ kk _ _ hk
              · cases hp
            · simp at hk0; subst hk0
              cases d <;> cases e <;> simp only [D.scalarEq, reduceCtorEq] at hp
              simp at hp; subst hp; cases hcr; cases hcr'
              exact run_equalIn_bool' w 9998 f.type _ _ hk
          simp only [Op.eqFields, f1, ne_eq, not_false_eq_true, if_true, Sem.run_bind, hpart xs c hc, hpart ys c' hc', heq, Result.andThen_ok]
          cases p
          · simp
          · simp [ih]
        · cases he

theorem agg_inv {v : V} {c : Value} {ds : List D} (h : RV φ S H w v c) (ha : v.isAgg = true) (hc : clos v.cells = some ds) :
    ∃ cs : List Value, c = .agg cs.toArray ∧ ∀ (i : Nat) (d : D), ds[i]? = some d → ∃ y, cs.toArray[0 + i]? = some y ∧ RD S w d y := by
  have key : ∀ (vs : List V) (cs : List Value), RVs φ S H w vs cs → clos vs = some ds → ∀ (i : Nat) (d : D), ds[i]? = some d → ∃ y, cs.toArray[0 + i]? = some y ∧ RD S w d y := fun vs cs hr hcl i d hd => by
    obtain ⟨h1, h2⟩ := hr.clos hcl
    have hi : i < cs.length := by rw [← h1]; exact (List.getElem?_eq_some_iff.1 hd).1
    exact ⟨cs[i], by simp [hi], h2 i d _ hd (List.getElem?_eq_getElem hi)⟩
  cases v with
  | agg vs => obtain ⟨cs, rfl, hr⟩ := RVs.of_agg h; exact ⟨cs, rfl, key _ _ hr hc⟩
  | d x =>
    cases x with
    | agg xs => obtain ⟨cs, rfl, hr⟩ := RVs.of_dagg h; exact ⟨cs, rfl, key _ _ hr hc⟩
    | _ => simp [V.isAgg] at ha
  | _ => simp [V.isAgg] at ha

theorem out_struct {o : Oper} {op : BinOp} {ty ty' : Nat} {x y : Operand} {ti : TI} {ds es : List D} {b r : Bool} (ho : o.op = .binOp op ty x y ty') (ht : TOk P ty ti) (hcm : ti.cmp ≠ [])
    (hxa : (ev T x).isAgg = true) (hya : (ev T y).isAgg = true) (hxc : clos (ev T x).cells = some ds) (hyc : clos (ev T y).cells = some es) (hb : eqCells ti.cmp ds es = some b)
    (hr : (op = .eql ∧ r = b) ∨ (op = .neq ∧ r = !b)) (hH : HRel C φ S H w) (hT : TRel φ S H w T a) : Out P C φ S H w o a (.d (.bool r)) H := by
  obtain ⟨i, z, d, h1, h2, h3, h4, h5, h5', h6, h7, h8, h9⟩ := ht.facts
  obtain ⟨q1, q2, fields, rfl, q3, q4⟩ := h9 hcm
  obtain ⟨cs, e1, r1⟩ := agg_inv (ev_rel hT x) hxa hxc
  obtain ⟨cs', e2, r2⟩ := agg_inv (ev_rel hT y) hya hyc
  have hf : P.fieldsOf ty = fields := by simp [Program.fieldsOf, h6]
  have hrun := eqFields_run (P := P) (w := w) (xs := cs.toArray) (ys := cs'.toArray) fields.toList 0 ti.cmp ds es b (fun i f hf => by obtain ⟨a1, a2, a3⟩ := q4 i f (by simpa using hf); exact ⟨a1, by omega, a3⟩) (by simpa using q3) r1 r2 hb
  have heq : (Op.equalIn 10000 ty (.agg cs.toArray) (.agg cs'.toArray)).run P w = .ok b w := by
    rw [run_equalIn_agg w 9999 ty cs.toArray cs'.toArray (by rw [hf]; exact h6) q2, hf]; exact hrun
  refine .quiet hH (c := .bool r) ?_ (.d _ _ (.bool _))
  have hg := fun op => run_eqGuard_agg (P := P) w op ty x y cs.toArray cs'.toArray q1
  rcases hr with ⟨rfl, rfl⟩ | ⟨rfl, rfl⟩
  · simp only [execOp, ho, e1, e2, Sem.run_bind, hg, Result.andThen_ok, run_eql_struct, heq, Sem.run_pure]
  · simp only [execOp, ho, e1, e2, Sem.run_bind, hg, Result.andThen_ok, run_neq_struct, heq, Sem.run_pure]

theorem out_min {o : Oper} {c : Call} {x y : Operand} {k k' : IntKind} {n m : Int} (ho : o.op = .call c) (hc : c.callee = .builtin .min) (hargs : c.args.toList = [x, y]) (hx : ev T x = .d (.int k n)) (hy : ev T y = .d (.int k' m))
    (hH : HRel C φ S H w) (hT : TRel φ S H w T a) : Out P C φ S H w o a (.d (.int k (if m < n then m else n))) H := by
  have h := ev_rel hT x
  rw [hx] at h
  have h' := ev_rel hT y
  rw [hy] at h'
  refine .quiet hH (c := .int k (if m < n then m else n)) ?_ (.d _ _ (.int _ _))
  have e1 : c.args = #[x, y] := by rw [← hargs]
  simp [execOp, ho, resolve, hc, e1, invoke, builtin, Builtin.min_, h.int_inv, h'.int_inv, Builtin.min2]

theorem out_max {o : Oper} {c : Call} {x y : Operand} {k k' : IntKind} {n m : Int} (ho : o.op = .call c) (hc : c.callee = .builtin .max) (hargs : c.args.toList = [x, y]) (hx : ev T x = .d (.int k n)) (hy : ev T y = .d (.int k' m))
    (hH : HRel C φ S H w) (hT : TRel φ S H w T a) : Out P C φ S H w o a (.d (.int k (if m > n then m else n))) H := by
  have h := ev_rel hT x
  rw [hx] at h
  have h' := ev_rel hT y
  rw [hy] at h'
  refine .quiet hH (c := .int k (if m > n then m else n)) ?_ (.d _ _ (.int _ _))
  have e1 : c.args = #[x, y] := by rw [← hargs]
  simp [execOp, ho, resolve, hc, e1, invoke, builtin, Builtin.max_, h.int_inv, h'.int_inv, Builtin.max2]

theorem out_max3 {o : Oper} {c : Call} {x y z : Operand} {k k' k'' : IntKind} {n m l : Int} (ho : o.op = .call c) (hc : c.callee = .builtin .max) (hargs : c.args.toList = [x, y, z]) (hx : ev T x = .d (.int k n)) (hy : ev T y = .d (.int k' m)) (hz : ev T z = .d (.int k'' l))
    (hH : HRel C φ S H w) (hT : TRel φ S H w T a) : Out P C φ S H w o a (.d (.int k (if l > (if m > n then m else n) then l else (if m > n then m else n)))) H := by
  have h := ev_rel hT x
  rw [hx] at h
  have h' := ev_rel hT y
  rw [hy] at h'
  have h'' := ev_rel hT z
  rw [hz] at h''
  refine .quiet hH (c := .int k (if l > (if m > n then m else n) then l else (if m > n then m else n))) ?_ (.d _ _ (.int _ _))
  have e1 : c.args = #[x, y, z] := by rw [← hargs]
  simp [execOp, ho, resolve, hc, e1, invoke, builtin, Builtin.max_, h.int_inv, h'.int_inv, h''.int_inv, Builtin.max2]

theorem zeroD_cells {ti : TI} {z : D} (h : zeroD ti = some z) : clos ti.zero = some z.cells := by
  unfold zeroD at h
  split at h
  · rename_i zs hzs
    rw [hzs]
    split at h
    · simp at h; subst h; rfl
    · split at h
      · split at h
        · rename_i z' ho
          simp at h; subst h
          cases z' <;> simp [V.one] at ho <;> rfl
        · cases h
      · cases h
  · cases h

theorem zeroCells_get (zero : Array Value) (n i k : Nat) (hi : i < n) (hk : k < zero.size) : (Builtin.zeroCells zero n).toList[i * zero.size + k]? = zero[k]? := by
  have hlt : i * zero.size + k < n * zero.size := by
    have : (i + 1) * zero.size ≤ n * zero.size := Nat.mul_le_mul_right _ hi
    rw [Nat.add_mul, Nat.one_mul] at this; omega
  have hm : (i * zero.size + k) % zero.size = k := by rw [Nat.mul_comm, Nat.mul_add_mod]; exact Nat.mod_eq_of_lt hk
  simp [Builtin.zeroCells, hlt, hm, hk]

theorem findNow_int {n : Int} : ∀ (es : List MapEntry) (ks : List Int) (vs : List D) (j : Nat) {d : D}, ks.length = es.length → vs.length = es.length → (∀ (i : Nat) (k : Int) (e : MapEntry), ks[i]? = some k → es[i]? = some e → e.key = .int .i64 k) →
    (∀ (i : Nat) (d : D) (e : MapEntry), vs[i]? = some d → es[i]? = some e → RD S w d e.val) → findF ks vs n = some d → ∃ q v, Instr.findNow (.int .i64) (.int .i64 n) es j = some (some (q, v)) ∧ RD S w d v
  | [], ks, vs, j, d, h1, h2, _, _, hf => by
    have : ks = [] := List.eq_nil_of_length_eq_zero h1
    subst this; simp [findF] at hf
  | e :: es, [], vs, j, d, h1, h2, _, _, hf => by simp at h1
  | e :: es, k :: ks, [], j, d, h1, h2, _, _, hf => by simp at h2
  | e :: es, k :: ks, v :: vs, j, d, h1, h2, h3, h4, hf => by
    have hk := h3 0 k e rfl rfl
    simp only [findF] at hf
    simp only [Instr.findNow, hk, Instr.sameNow, if_true]
    by_cases hn : n = k
    · rw [if_pos hn] at hf
      have : (n == k) = true := by simpa using hn
      rw [this]
      obtain rfl : v = d := by simpa using hf
      exact ⟨j, e.val, rfl, h4 0 v e rfl rfl⟩
    · rw [if_neg hn] at hf
      have : (n == k) = false := by simpa using hn
      rw [this]
      exact findNow_int es ks vs (j + 1) (by simpa using h1) (by simpa using h2) (fun i k e hk he => h3 (i + 1) k e (by simpa using hk) (by simpa using he)) (fun i d e hd he => h4 (i + 1) d e (by simpa using hd) (by simpa using he)) hf

theorem out_lookup {o : Oper} {t : Nat} {x ix : Operand} {ti : TI} {ks : List Int} {vs : List D} {n : Int} {d : D} (ho : o.op = .lookup t x ix false) (ht : TOk P t ti) (hsh : ti.shape = .map64) (hx : ev T x = .d (.fmap ks vs))
    (hi : ev T ix = .d (.int .i64 n)) (hf : findF ks vs n = some d) (hH : HRel C φ S H w) (hT : TRel φ S H w T a) : Out P C φ S H w o a (.d d) H := by
  obtain ⟨i, zv, de, f1, f2, f3, f4, f5, f5', f6, f7, f8, f9⟩ := ht.facts
  rw [hsh] at f8
  obtain ⟨kt, e, rfl, hkt⟩ := f8
  have hx' := ev_rel hT x
  rw [hx] at hx'
  have hi' := ev_rel hT ix
  rw [hi] at hi'
  have e2 := hi'.int_inv
  generalize hcx : a.eval x = cx at hx'
  cases hx' with | d _ _ hr =>
  cases hr with | fmap _ _ B es clock hs hb h1 h2 h3 h4 =>
  obtain ⟨q, v, g1, g2⟩ := findNow_int es ks vs 0 h1 h2 h3 h4 hf
  refine .quiet hH (c := v) ?_ (.d _ _ g2)
  have hck : (Instr.checkKey es.toArray.isEmpty (9999 + 1) kt (.int .i64 n)).run P w = .ok () w := MapKept.run_checkKey hkt (show MapKept.IsKey (.int .i64) (.int .i64 n) from rfl) _ _
  have hfk : (Instr.findKey kt (.int .i64 n) es.toArray.toList).run P w = .ok (some (q, v)) w := MapKept.run_findKey hkt (by simpa using g1)
  have hg : (getObj B).run P w = .ok (.map es.toArray clock) w := by simp [getObj, Sem.run, hb]
  simp only [execOp, ho, hcx, e2, Instr.lookup, Sem.run_bind, run_underlying f6, Result.andThen_ok, hg, Sem.run_pure, hck, hfk]
  rfl

theorem madeCells_get (zero : Array Value) (n i k : Nat) (hi : i < n) (hk : k < zero.size) : (madeCells zero (n * zero.size)).toList[i * zero.size + k]? = zero[k]? := by
  have hlt : i * zero.size + k < n * zero.size := by
    have : (i + 1) * zero.size ≤ n * zero.size := Nat.mul_le_mul_right _ hi
    rw [Nat.add_mul, Nat.one_mul] at this; omega
  have hm : (i * zero.size + k) % zero.size = k := by rw [Nat.mul_comm, Nat.mul_add_mod]; exact Nat.mod_eq_of_lt hk
  simp [madeCells, hlt, hm, hk]

theorem out_makeSlice {o : Oper} {t nid : Nat} {l c : Operand} {eti : TI} {k k' : IntKind} {n : Int} {z : D} (ho : o.op = .makeSlice t l c) (hE : EOk P E) (hs : sliceOf E t = some eti)
    (hl : ev T l = .d (.int k n)) (hc : ev T c = .d (.int k' n)) (hz : zeroD eti = some z) (hok : okEl eti.size z = true) (h0 : 0 ≤ n) (hb : (eti.bytes : Int) * n ≤ 281474976710656) (h63 : n ≤ 9223372036854775807)
    (hu : hget H nid = .unborn) (hH : HRel C φ S H w) (hT : TRel φ S H w T a) : Out P C φ S H w o a (.own nid 0 n.toNat) (hput H nid (.dat false eti.size (List.replicate n.toNat z))) := by
  obtain ⟨e, h1, het, _⟩ := sliceOf_spec hE hs
  obtain ⟨i, zv, d, f1, f2, f3, f4, f5, f5', f6, f7, f8, f9⟩ := het.facts
  have el := ev_rel hT l
  rw [hl] at el
  have ec := ev_rel hT c
  rw [hc] at ec
  have e1 := el.int_inv
  have e2 := ec.int_inv
  simp only [okEl, Bool.and_eq_true, beq_iff_eq] at hok
  have hzc := zeroD_cells hz
  obtain ⟨z1, z2⟩ := clos_spec hzc
  rw [f5] at z1 z2
  have hzs : zv.cells.size = eti.size := f5'
  have hrun : (execOp a.eval o).run P w = .ok (.value (.slice (some ⟨w.heap.size, 0, none⟩) n.toNat n.toNat)) (w.alloc (.cells (madeCells zv.cells (n.toNat * eti.size)) e)) := by
    have := run_make (P := P) w t e i zv h1 f1 f4 k k' n n h0 (Int.le_refl _) (by rw [f3]; exact hb) h63
    simp only [execOp, ho, e1, e2, Sem.run_bind, this, Result.andThen_ok, Sem.run_pure, f2]
  have hcl : (madeCells zv.cells (n.toNat * eti.size)).size = n.toNat * eti.size := size_madeCells _ _
  obtain ⟨r1, r2, r3⟩ := hH.alloc hu (.dat false eti.size (List.replicate n.toNat z)) (madeCells zv.cells (n.toNat * eti.size)) e (fun hst => by
    refine .inr ⟨⟨w.heap.size, 0, _⟩, _, e, by simp [upd], ⟨heap_alloc_new w _, rfl⟩, fun e' he' => ?_, by simp [hcl], fun i' e' q x he hx => ?_, ?_⟩
    · obtain rfl := List.eq_of_mem_replicate he'
      exact hok.1
    · have hi' : i' < n.toNat := by have := (List.getElem?_eq_some_iff.1 he).1; simpa using this
      have he' : e' = z := by
        have := List.mem_of_getElem? he
        exact List.eq_of_mem_replicate this
      subst he'
      have hq : q < e'.cells.length := (List.getElem?_eq_some_iff.1 hx).1
      have hqz : q < zv.cells.size := by omega
      refine ⟨zv.cells[q], ?_, ?_⟩
      · have := madeCells_get zv.cells n.toNat i' q hi' hqz
        rw [hzs] at this
        simp only [Nat.zero_add]
        rw [← Array.getElem?_toList, this]
        simp [hqz]
      · have hzk : (ofVal zv.cells[q]).clo = e'.cells[q]? := by
          rw [List.getElem?_eq_getElem hq]
          exact z2 q _ _ (by simp [hqz]) (List.getElem?_eq_getElem hq)
        rw [hx] at hzk
        have hrv : RV φ S H w (ofVal zv.cells[q]) zv.cells[q] := ofVal_rel _
        have := hrv.clo_rel hzk
        exact this.keep hst.keepS
    · constructor
      · intro h; have := hH.low _ h; simp at this
      · intro h; cases h)
  refine ⟨_, _, _, .inl hrun, .own nid 0 n.toNat n.toNat n.toNat _ (by rw [hget_hput]; simp) (fun fz sz els' hg => ?_), r1, r2, r3⟩
  rw [hget_hput] at hg; simp at hg
  obtain ⟨rfl, rfl, rfl⟩ := hg
  exact ⟨by simp, rfl, Nat.le_refl _, .inr ⟨⟨w.heap.size, 0, (madeCells zv.cells (n.toNat * eti.size)).size⟩, by simp only [upd, if_true], by simp, by simp only [hcl]; simp⟩⟩

theorem out_clear {o : Oper} {c : Call} {x : Operand} {t : Nat} {eti : TI} {id off len sz : Nat} {els : List D} {z : D} (ho : o.op = .call c) (hc : c.callee = .builtin .clear) (hargs : c.args.toList = [x]) (htys : c.argTypes.toList = [t]) (hE : EOk P E)
    (hs : sliceOf E t = some eti) (hx : ev T x = .own id off len) (hg : hget H id = .dat false sz els) (hz : zeroD eti = some z) (hsz : sz = eti.size) (hok : okEl eti.size z = true) (hH : HRel C φ S H w) (hT : TRel φ S H w T a) :
    Out P C φ S H w o a (.d (.tuple [])) (hput H id (.dat false sz (els.take off ++ List.replicate len z ++ els.drop (off + len)))) := by
  obtain ⟨e, h1, het, _⟩ := sliceOf_spec hE hs
  obtain ⟨i, zv, d, f1, f2, f3, f4, f5, f5', f6, f7, f8, f9⟩ := het.facts
  have h := ev_rel hT x
  rw [hx] at h
  generalize hcx : a.eval x = cx at h
  have e1 : c.args = #[x] := by rw [← hargs]
  have e2 : c.argTypes = #[t] := by rw [← htys]
  simp only [okEl, Bool.and_eq_true, beq_iff_eq] at hok
  have hzc := zeroD_cells hz
  obtain ⟨z1, z2⟩ := clos_spec hzc
  rw [f5] at z1 z2
  cases h with | own _ _ _ l cap A hub hh =>
    obtain ⟨r1, r0, r2, r3⟩ := hh false sz els hg
    subst r0
    rcases Nat.eq_zero_or_pos l with hl0 | hl0
    · subst hl0
      have hsame : els.take off ++ List.replicate 0 z ++ els.drop (off + 0) = els := by simp
      rw [hsame]
      have hrun : (execOp a.eval o).run P w = .ok (.value (.tuple #[])) w := by
        cases A with
        | none => simp [execOp, ho, resolve, hc, e1, e2, invoke, builtin, Builtin.clear_, run_underlying h1, hcx]
        | some A => simp [execOp, ho, resolve, hc, e1, e2, invoke, builtin, Builtin.clear_, run_underlying h1, hcx]
      have hput_same : ∀ i, hget (hput H id (.dat false sz els)) i = hget H i := fun i => by
        rw [hget_hput]; split
        · rename_i e; rw [e, hg]
        · rfl
      have hs' : Step φ S H w φ S (hput H id (.dat false sz els)) w := ⟨.refl _ _, fun i hi => by
        rw [hput_same]; exact (Step.refl (φ := φ) (S := S) (H := H) (w := w)).keepH i hi⟩
      refine ⟨_, _, φ, .inl hrun, .d _ _ (.tuple [] [] rfl (fun i d c h => by simp at h)), ⟨hH.n0, hH.own, hH.vis, hH.inj, fun i => ?_, hH.low⟩, hs', .refl⟩
      rw [hput_same]
      exact (hH.blk i).keep hs' rfl (fun _ _ => ⟨rfl, Iff.rfl⟩)
    · rcases r3 with r3 | ⟨L, hL, rfl, hfitc⟩
      · omega
      have hb := hH.blk id
      rw [hg] at hb
      rcases hb with ⟨hn, _⟩ | ⟨L', cs, t', h1', h3, h4, h5, h6, h7⟩
      · subst hn; simp at r1; omega
      rw [hL] at h1'; cases h1'
      let vals : List Value := (Builtin.zeroCells zv.cells l).toList
      have hzs : zv.cells.size = sz := by rw [hsz]; exact f5'
      have hvl : vals.length = l * sz := by simp [vals, Builtin.zeroCells, hzs]
      have hone : ∀ v ∈ vals, v.oneCell' = true := fun v hv => by
        obtain ⟨q, hq⟩ := List.mem_iff_getElem?.1 hv
        have hql : q < l * sz := by rw [← hvl]; exact (List.getElem?_eq_some_iff.1 hq).1
        have hpos : 0 < sz := Nat.pos_of_ne_zero (fun e => by rw [e] at hql; simp at hql)
        have hk : q % sz < zv.cells.size := by rw [hzs]; exact Nat.mod_lt _ hpos
        have hi : q / sz < l := by rw [Nat.div_lt_iff_lt_mul hpos]; exact hql
        have := zeroCells_get zv.cells l (q / sz) (q % sz) hi hk
        rw [hzs, Nat.div_add_mod'] at this
        rw [show vals[q]? = _ from this] at hq
        have hzk : (ofVal zv.cells[q % sz]).clo = z.cells[q % sz]? := by
          have hk2 : q % sz < z.cells.length := by rw [← z1]; simpa using hk
          rw [List.getElem?_eq_getElem hk2]
          exact z2 (q % sz) _ _ (by simp [hk]) (List.getElem?_eq_getElem hk2)
        have hk2 : q % sz < z.cells.length := by rw [← z1]; simpa using hk
        have ho1 := List.all_eq_true.1 hok.2 _ (List.getElem_mem hk2)
        rw [Array.getElem?_eq_getElem hk] at hq
        simp at hq; subst hq
        have hrv : RV φ S H w (ofVal zv.cells[q % sz]) zv.cells[q % sz] := ofVal_rel _
        rw [List.getElem?_eq_getElem hk2] at hzk
        exact (RV.d _ _ (hrv.clo_rel hzk) : RV φ S H w (.d _) _).one_inv ho1
      have hmul : (off + l) * sz ≤ els.length * sz := Nat.mul_le_mul_right _ r1
      rw [Nat.add_mul] at hmul
      have hfit' : L.off + off * sz + vals.length ≤ cs.toList.length := by rw [hvl]; simp; omega
      have hst := run_storeCells_at P L.blk (L.off + off * sz) t' vals 0 cs w h3.heap (by simpa using hfit') hone
      simp only [Nat.add_zero] at hst
      have hrun : (execOp a.eval o).run P w = .ok (.value (.tuple #[])) (w.setRow L.blk (splice cs.toList (L.off + off * sz) vals).toArray) := by
        obtain ⟨l', rfl⟩ : ∃ l', l = l' + 1 := ⟨l - 1, by omega⟩
        simp only [splice]
        simp [execOp, ho, resolve, hc, e1, e2, invoke, builtin, Builtin.clear_, run_underlying h1, hcx, run_zeroValue' f1 f4, vals] at hst ⊢
        simp [hst]
      have hsz' : (splice cs.toList (L.off + off * sz) vals).toArray.size = cs.size := by
        rw [List.size_toArray, splice_length _ _ _ hfit']; simp
      have hnl : (els.take off ++ List.replicate l z ++ els.drop (off + l)).length = els.length := by simp; omega
      have hget : ∀ i', (els.take off ++ List.replicate l z ++ els.drop (off + l))[i']? = if off ≤ i' ∧ i' < off + l then some z else els[i']? := fun i' => by
        rw [List.append_assoc, List.getElem?_append]
        have hlt : (els.take off).length = off := by simp; omega
        rw [hlt]
        by_cases g1 : i' < off
        · rw [if_pos g1, List.getElem?_take, if_pos g1, if_neg (by omega)]
        · rw [if_neg g1, List.getElem?_append, List.length_replicate]
          by_cases g2 : i' < off + l
          · rw [if_pos (by omega), if_pos ⟨by omega, g2⟩, List.getElem?_replicate, if_pos (by omega)]
          · rw [if_neg (by omega), if_neg (by omega), List.getElem?_drop]
            congr 1; omega
      obtain ⟨q1, q2, q3⟩ := hH.write hL h3 (fun hs => by simpa using h7.1 hs) hsz' (.dat false sz (els.take off ++ List.replicate l z ++ els.drop (off + l)))
        (by rw [hg]; simp only [SameShape]; exact ⟨trivial, by omega⟩)
        (fun hs => .inr ⟨L, _, t', hL, ⟨setRow_heap w L.blk cs _ t' (0, 0) h3.heap, h3.size.trans hsz'.symm⟩, fun e' he' => by
          simp only [List.mem_append] at he'
          rcases he' with (he' | he') | he'
          · exact h4 e' (List.mem_of_mem_take he')
          · rw [List.eq_of_mem_replicate he', hsz]; exact hok.1
          · exact h4 e' (List.mem_of_mem_drop he'), by rw [hsz', hnl]; exact h5, fun i' e' k x' he' hx' => by
          rw [hget] at he'
          have hcell : (splice cs.toList (L.off + off * sz) vals).toArray[L.off + (i' * sz + k)]? = if L.off + off * sz ≤ L.off + (i' * sz + k) ∧ L.off + (i' * sz + k) < L.off + off * sz + l * sz then vals[L.off + (i' * sz + k) - (L.off + off * sz)]? else cs[L.off + (i' * sz + k)]? := by
            rw [List.getElem?_toArray, splice_get _ _ _ hfit', hvl]
            simp
          rw [hcell]
          by_cases hin : off ≤ i' ∧ i' < off + l
          · rw [if_pos hin] at he'
            cases he'
            have hk : k < sz := by have := (List.getElem?_eq_some_iff.1 hx').1; rw [hok.1, ← hsz] at this; exact this
            have hm1 : off * sz ≤ i' * sz := Nat.mul_le_mul_right _ hin.1
            have hm2 : (i' + 1) * sz ≤ (off + l) * sz := Nat.mul_le_mul_right _ hin.2
            rw [Nat.add_mul, Nat.add_mul, Nat.one_mul] at hm2
            rw [if_pos (by omega)]
            have hidx : L.off + (i' * sz + k) - (L.off + off * sz) = (i' - off) * zv.cells.size + k := by
              rw [hzs, Nat.sub_mul]; omega
            have hkz : k < zv.cells.size := by omega
            rw [hidx, show vals[(i' - off) * zv.cells.size + k]? = _ from zeroCells_get zv.cells l (i' - off) k (by omega) hkz]
            refine ⟨zv.cells[k], Array.getElem?_eq_getElem hkz, ?_⟩
            have hrv : RV φ S H w (ofVal zv.cells[k]) zv.cells[k] := ofVal_rel _
            exact (hrv.clo_rel (z2 k _ x' (by simp [hkz]) hx')).keep hs.keepS
          · rw [if_neg hin] at he'
            have hk : k < sz := by
              have := (List.getElem?_eq_some_iff.1 hx').1
              rw [h4 e' (List.mem_of_getElem? he')] at this; exact this
            have hneg : ¬ (L.off + off * sz ≤ L.off + (i' * sz + k) ∧ L.off + (i' * sz + k) < L.off + off * sz + l * sz) := by
              intro ⟨g1, g2⟩
              rcases Nat.lt_or_ge i' off with hlt | hge
              · have : (i' + 1) * sz ≤ off * sz := Nat.mul_le_mul_right _ hlt
                rw [Nat.add_mul, Nat.one_mul] at this; omega
              · have : (off + l) * sz ≤ i' * sz := Nat.mul_le_mul_right _ (by omega)
                rw [Nat.add_mul] at this; omega
            rw [if_neg hneg]
            obtain ⟨c', hc1, hc2⟩ := h6 i' e' k x' he' hx'
            exact ⟨c', hc1, hc2.keep hs.keepS⟩, h7⟩)
      exact ⟨_, _, φ, .inl hrun, .d _ _ (.tuple [] [] rfl (fun i d c h => by simp at h)), q1, q2, q3⟩

end
end Go.Proofs.Ytaejlmengfahnaa.AM

set_option linter.all false
namespace Go.Proofs.Ytaejlmengfahnaa.AM
open Go Go.RowKit

section
variable {P : Program} {E : Env} {C : Ctx} {φ φ' : Nat → Option Loc} {S S' : Nat → Prop} {H H' : Heap} {w w' : World} {T : Tmps} {a : Act}

theorem out_cap {o : Oper} {c : Call} {x : Operand} {t id off len k : Nat} {eti : TI} (ho : o.op = .call c) (hc : c.callee = .builtin .cap) (hargs : c.args.toList = [x]) (htys : c.argTypes.toList = [t]) (hE : EOk P E) (hs : sliceOf E t = some eti)
    (hx : ev T x = .full id off len k) (hH : HRel C φ S H w) (hT : TRel φ S H w T a) : Out P C φ S H w o a (.d (.int .i64 k)) H := by
  obtain ⟨e, h1, _, _⟩ := sliceOf_spec hE hs
  have h := ev_rel hT x
  rw [hx] at h
  generalize hcx : a.eval x = cx at h
  have e1 : c.args = #[x] := by rw [← hargs]
  have e2 : c.argTypes = #[t] := by rw [← htys]
  cases h with | full _ _ _ _ A hu hh =>
    refine .quiet hH (c := .int .i64 k) ?_ (.d _ _ (.int _ _))
    simp [execOp, ho, resolve, hc, e1, e2, invoke, builtin, Builtin.cap_, run_underlying h1, hcx, goInt]

theorem isAgg_val {v : V} {c : Value} (h : RV φ S H w v c) (ha : v.isAgg = true) : ∃ cs : Array Value, c = .agg cs ∧ RVs φ S H w v.cells cs.toList := by
  have hu : v.isUndef = false := by
    cases v with
    | d x => cases x <;> simp_all [V.isAgg, V.isUndef]
    | _ => rfl
  have hc := h.cells hu
  cases h with
  | d x c h =>
    cases h with
    | agg ds cs hl hh => exact ⟨cs.toArray, rfl, by simpa [Value.cells] using hc⟩
    | _ => simp [V.isAgg] at ha
  | agg vs cs hl hh => exact ⟨cs.toArray, rfl, by simpa [Value.cells] using hc⟩
  | _ => simp [V.isAgg] at ha

theorem out_index_agg {o : Oper} {t et m : Nat} {x ix : Operand} {ti eti : TI} {k : IntKind} {n : Int} (ho : o.op = .index t x ix) (ht : TOk P t ti) (hsh : ti.shape = .array m et) (het : TOk P et eti) (hi : ev T ix = .d (.int k n))
    (ha : (ev T x).isAgg = true) (hl : (ev T x).cells.length = m * eti.size) (h0 : 0 ≤ n) (h1 : n < m) (hag : eti.agg = true) (hH : HRel C φ S H w) (hT : TRel φ S H w T a) :
    Out P C φ S H w o a (.agg (((ev T x).cells.drop (n.toNat * eti.size)).take eti.size)) H := by
  obtain ⟨i, z, d, q1, q2, q3, q4, q5, q5', q6, q7, q8, q9⟩ := ht.facts
  obtain ⟨i', z', d', g1, g2, g3, g4, g5, g5', g6, g7, g8, g9⟩ := het.facts
  rw [hsh] at q8
  simp only [ShapeOk] at q8
  subst q8
  obtain ⟨cs, hc, hr⟩ := isAgg_val (ev_rel hT x) ha
  have hI := ev_rel hT ix
  rw [hi] at hI
  refine .quiet hH (c := .agg (cs.extract (n.toNat * eti.size) (n.toNat * eti.size + eti.size))) ?_ ?_
  · rw [hag] at g7
    simp [execOp, ho, Instr.index, hI.int_inv, asIntOf, run_underlying q6, hc, h0, h1, run_sizeOf' g1, g2, part, run_isAgg' g6, ← g7]
  · have : (cs.extract (n.toNat * eti.size) (n.toNat * eti.size + eti.size)) = (((cs.toList.drop (n.toNat * eti.size)).take eti.size)).toArray := by
      apply Array.ext'
      simp [Array.toList_extract, List.extract_eq_take_drop]
    rw [this]
    refine .agg _ _ ?_ (fun j v c hv hc' => ?_)
    · simp only [List.length_take, List.length_drop, hr.len]
    · rw [List.getElem?_take] at hv hc'
      split at hv
      · rename_i hj
        rw [if_pos hj] at hc'
        rw [List.getElem?_drop] at hv hc'
        exact hr.at_ _ v c hv hc'
      · cases hv

theorem out_index_one {o : Oper} {t et m : Nat} {x ix : Operand} {ti eti : TI} {k : IntKind} {n : Int} (ho : o.op = .index t x ix) (ht : TOk P t ti) (hsh : ti.shape = .array m et) (het : TOk P et eti) (hi : ev T ix = .d (.int k n))
    (ha : (ev T x).isAgg = true) (hl : (ev T x).cells.length = m * eti.size) (h0 : 0 ≤ n) (h1 : n < m) (hag : eti.agg = false) (hsz : eti.size = 1) (hH : HRel C φ S H w) (hT : TRel φ S H w T a) :
    Out P C φ S H w o a ((ev T x).cells.getD n.toNat (.d .undef)) H := by
  obtain ⟨i, z, d, q1, q2, q3, q4, q5, q5', q6, q7, q8, q9⟩ := ht.facts
  obtain ⟨i', z', d', g1, g2, g3, g4, g5, g5', g6, g7, g8, g9⟩ := het.facts
  rw [hsh] at q8
  simp only [ShapeOk] at q8
  subst q8
  obtain ⟨cs, hc, hr⟩ := isAgg_val (ev_rel hT x) ha
  have hI := ev_rel hT ix
  rw [hi] at hI
  rw [hsz, Nat.mul_one] at hl
  have hlt : n.toNat < cs.size := by have := hr.len; simp at this; omega
  have hlt' : n.toNat < (ev T x).cells.length := by omega
  refine .quiet hH (c := cs[n.toNat]) ?_ ?_
  · rw [hag] at g7
    rw [hsz] at g2
    simp [execOp, ho, Instr.index, hI.int_inv, asIntOf, run_underlying q6, hc, h0, h1, run_sizeOf' g1, g2, part, run_isAgg' g6, ← g7, hlt]
  · refine hr.at_ n.toNat _ _ ?_ (by simp [hlt])
    rw [List.getD_eq_getElem?_getD, List.getElem?_eq_getElem hlt']; rfl

set_option maxHeartbeats 1000000 in
theorem out_append_zeros {o : Oper} {c : Call} {x y : Operand} {t u nid id off len k sz : Nat} {eti ui : TI} {kq kn : IntKind} {n : Int} {els : List D} {fz : Bool} {z : D} (ho : o.op = .call c) (hc : c.callee = .builtin .append) (hargs : c.args.toList = [x, y]) (htys : c.argTypes.toList = [t, u])
    (hE : EOk P E) (hs : sliceOf E t = some eti) (hu' : TOk P u ui) (hush : ui.shape = .int kn) (hx : ev T x = .full id off len k) (hg : hget H id = .dat fz sz els) (hsz : sz = eti.size) (hy : ev T y = .d (.int kq n)) (hz : zeroD eti = some z) (hok : okEl eti.size z = true) (hb1 : 1 ≤ eti.bytes) (hs1 : 0 < eti.size)
    (hn : 0 < n) (hroom : k < len + n.toNat) (hbytes : (len + n.toNat) * eti.bytes ≤ 140737488355328) (hu : hget H nid = .unborn) (hH : HRel C φ S H w) (hT : TRel φ S H w T a) :
    Out P C φ S H w o a (.own nid 0 (len + n.toNat)) (hput H nid (.dat false sz ((els.drop off).take len ++ List.replicate n.toNat z))) := by
  obtain ⟨e, h1, h2, _⟩ := sliceOf_spec hE hs
  obtain ⟨i, zv, d, g1, g2, g3, g4, g5, g5', g6, g7, g8, g9⟩ := h2.facts
  obtain ⟨i', z', d', q1, q2, q3, q4, q5, q5', q6, q7, q8, q9⟩ := hu'.facts
  rw [hush] at q8
  simp only [ShapeOk] at q8
  subst q8
  subst hsz
  have hx' := ev_rel hT x
  rw [hx] at hx'
  have hy' := ev_rel hT y
  rw [hy] at hy'
  have hyv := hy'.int_inv
  generalize hcx : a.eval x = cx at hx'
  have hexO : elems H (.own id off len) = some ((els.drop off).take len) := by simp [elems, hg]
  obtain ⟨A, cap0, eA, szo, olds, m1, m2, m3, m4⟩ := elems_rel hH hx'.unfull hexO
  simp only [okEl, Bool.and_eq_true, beq_iff_eq] at hok
  have hzc := zeroD_cells hz
  obtain ⟨z1, z2⟩ := clos_spec hzc
  rw [g5] at z1 z2
  cases hx' with | full _ _ _ _ A0 hub hh =>
    obtain ⟨r1, r2, r3⟩ := hh fz eti.size els hg
    have hlen1 : ((els.drop off).take len).length = len := by simp; omega
    injection eA with eA1 _ eA3
    subst eA1; subst eA3
    have hbr := hH.blk id
    rw [hg] at hbr
    have hszels : ∀ e ∈ (els.drop off).take len, e.cells.length = eti.size := fun e he => by
      rcases hbr with ⟨hn, _⟩ | ⟨L', cs, t', s1, s2, s3, s4, s5, s6⟩
      · subst hn; simp at he
      · exact s3 e (List.mem_of_mem_drop (List.mem_of_mem_take he))
    have hflatO : Flat S w eti.size ((els.drop off).take len) olds := by
      by_cases h0 : (els.drop off).take len = []
      · refine ⟨hszels, ?_, fun i e k x he => by rw [h0] at he; simp at he⟩
        rw [h0] at m2 ⊢; simpa using m2
      · obtain ⟨e1, he1⟩ := List.exists_mem_of_ne_nil _ h0
        have : szo = eti.size := by rw [← m1 e1 he1]; exact hszels e1 he1
        subst this
        exact ⟨hszels, m2, m4⟩
    obtain ⟨q, rfl⟩ : ∃ q : Nat, n = q := ⟨n.toNat, (Int.toNat_of_nonneg (Int.le_of_lt hn)).symm⟩
    simp only [Int.toNat_natCast] at hroom hbytes ⊢
    have hq0 : 0 < q := by omega
    have hbq : len + q ≤ 9223372036854775807 := by
      have : (len + q) * 1 ≤ (len + q) * eti.bytes := Nat.mul_le_mul_left _ hb1
      omega
    have hfits : Builtin.nextslicecap (len + q) k * i.bytes ≤ 281474976710656 := growslice_fits (by omega) (by rw [g3]; exact hbytes)
    have hqb : q * i.bytes ≤ 281474976710656 := by
      rw [g3]
      have : q * eti.bytes ≤ (len + q) * eti.bytes := Nat.mul_le_mul_right _ (by omega)
      omega
    have hold : (Builtin.firstCells i.size len (.slice A0 len k)).run P w.drew = .ok olds.toArray w.drew := by
      cases A0 with
      | none =>
        have hl0 : len = 0 := by
          rcases r3 with h | ⟨L, _, h, _⟩
          · omega
          · cases h
        have hol : olds = [] := List.eq_nil_of_length_eq_zero (by rw [hflatO.len, hlen1, hl0]; simp)
        subst hol; rw [hl0]; rfl
      | some b =>
        show (loadCells b (len * i.size)).run P w.drew = _
        have e1 : len * i.size = olds.length := by rw [hflatO.len, hlen1, g2]
        rw [e1]
        refine run_loadCells_list (w := w.drew) b olds (fun j v hj => ?_)
        have hne0 : (els.drop off).take len ≠ [] := fun h0 => by
          have := hflatO.len; rw [h0] at this; simp at this; subst this; simp at hj
        obtain ⟨Bo, oo, hBo, hco⟩ := m3 hne0
        cases hBo
        rw [addr_add]; exact hco j v hj
    have hrun := run_append_call (w := w) ho hc hargs htys (by rw [hcx, hyv]; exact Lib.run_append_grow_zeros w t u o.type e i zv kq kn h1 q6 g1 g4 A0 len k olds hold q hq0 (by rw [g2]; exact hs1) hroom (by omega) hqb hfits)
    have hge := grownCap_ge w (len + q) k e
    have hzs : zv.cells.size = eti.size := g5'
    have hzone : ∀ j : Nat, j < eti.size → ∃ y, zv.cells[j]? = some y ∧ ∀ x, z.cells[j]? = some x → RD S w x y := fun j hj => by
      refine ⟨zv.cells[j]'(by omega), Array.getElem?_eq_getElem (by omega), fun x hx => ?_⟩
      have hrv : RV φ S H w (ofVal (zv.cells[j]'(by omega))) (zv.cells[j]'(by omega)) := ofVal_rel _
      exact hrv.clo_rel (z2 j _ x (by simp [show j < zv.cells.size by omega]) hx)
    have hflatZ : Flat S w eti.size (List.replicate q z) (Builtin.zeroCells zv.cells q).toList := by
      refine ⟨fun e he => by rw [List.eq_of_mem_replicate he]; exact hok.1, by simp [size_zeroCells, hzs], fun j e k x he hx => ?_⟩
      have hj : j < q := by have := (List.getElem?_eq_some_iff.1 he).1; simpa using this
      have hez : e = z := List.eq_of_mem_replicate (List.mem_of_getElem? he)
      subst hez
      have hk : k < eti.size := by have := (List.getElem?_eq_some_iff.1 hx).1; rw [hok.1] at this; exact this
      obtain ⟨y, hy1, hy2⟩ := hzone k hk
      refine ⟨y, ?_, hy2 x hx⟩
      have := zeroCells_get zv.cells q j k hj (by omega)
      rw [hzs] at this
      rw [show (Builtin.zeroCells zv.cells q).toList[j * eti.size + k]? = _ from this]
      exact hy1
    have hcssz : (olds.toArray ++ Builtin.zeroCells zv.cells q ++ Builtin.zeroCells zv.cells (grownCap w (len + q) k e - (len + q))).size = grownCap w (len + q) k e * eti.size := by
      simp only [Array.size_append, List.size_toArray, size_zeroCells, hzs, hflatO.len, hlen1]
      rw [← Nat.add_mul, ← Nat.add_mul]; congr 1; omega
    have hnw : HRel C φ S H w.drew := hH.drew
    obtain ⟨p1, p2, p3⟩ := hnw.alloc hu (.dat false eti.size ((els.drop off).take len ++ List.replicate q z)) (olds.toArray ++ Builtin.zeroCells zv.cells q ++ Builtin.zeroCells zv.cells (grownCap w (len + q) k e - (len + q))) e (fun hst => by
      have hfl0 : Flat S w.drew eti.size ((els.drop off).take len ++ List.replicate q z) (olds ++ (Builtin.zeroCells zv.cells q).toList) := Flat.keep (S := S) (S' := S) (w := w) (w' := w.drew) (fun B h _ => ⟨h, rfl⟩) (hflatO.append hflatZ)
      have hfl := hfl0.keep hst.keepS
      refine .inr ⟨⟨w.heap.size, 0, _⟩, _, e, by simp [upd], ⟨heap_alloc_new w.drew _, rfl⟩, hfl.wide, ?_, fun i e' k' x he hx => ?_, ?_⟩
      · rw [hcssz, List.length_append, hlen1, List.length_replicate]
        have : (len + q) * eti.size ≤ grownCap w (len + q) k e * eti.size := Nat.mul_le_mul_right _ hge
        simpa using this
      · obtain ⟨y', hy1, hy2⟩ := hfl.at_ i e' k' x he hx
        refine ⟨y', ?_, hy2⟩
        have hlt := (List.getElem?_eq_some_iff.1 hy1).1
        simp only [Nat.zero_add]
        rw [Array.getElem?_append, if_pos (by simpa using hlt)]
        rw [← hy1]
        simp [← Array.getElem?_toList]
      · constructor
        · intro h; have := hH.low _ h; simp at this
        · intro h; cases h)
    refine ⟨_, _, _, .inl hrun, ?_, p1, ⟨fun B h hlt => p2.keepS B h hlt, p2.keepH⟩, ⟨p3.os, p3.tape, p3.output, p3.size, p3.block⟩⟩
    refine .own _ _ _ _ _ _ (by rw [hget_hput]; simp) (fun fz sz els' hg' => ?_)
    rw [hget_hput] at hg'; simp at hg'
    obtain ⟨rfl, rfl, rfl⟩ := hg'
    exact ⟨by simp; omega, rfl, hge, .inr ⟨_, by simp only [upd, if_true]; rfl, by simp, by simp only [hcssz]; simp⟩⟩

theorem out_copy_own {o : Oper} {c : Call} {x y : Operand} {t u id off len sz : Nat} {eti : TI} {els ys : List D} (ho : o.op = .call c) (hc : c.callee = .builtin .copy) (hargs : c.args.toList = [x, y]) (htys : c.argTypes.toList = [t, u])
    (hE : EOk P E) (hs : sliceOf E t = some eti) (hx : ev T x = .own id off len ∨ ∃ k, ev T x = .full id off len k) (hg : hget H id = .dat false sz els) (hsz : sz = eti.size) (hy : elems H (ev T y) = some ys) (hok' : ∀ e ∈ ys.take len, okEl eti.size e = true) (hH : HRel C φ S H w) (hT : TRel φ S H w T a) :
    Out P C φ S H w o a (.d (.int .i64 ((min ys.length len : Nat) : Int))) (hput H id (.dat false sz (splice els off (ys.take len)))) := by
  obtain ⟨e, h1, h2, _⟩ := sliceOf_spec hE hs
  obtain ⟨i, zv, d, g1, g2, g3, g4, g5, g5', g6, g7, g8, g9⟩ := h2.facts
  have hx' : RV φ S H w (.own id off len) (a.eval x) := by
    have := ev_rel hT x
    rcases hx with hx | ⟨k, hx⟩
    · rwa [hx] at this
    · rw [hx] at this; exact this.unfull
  have hy' := ev_rel hT y
  obtain ⟨B, cy, ey, szy, vals, k1, k2, k3, k4⟩ := elems_rel hH hy' hy
  generalize hcx : a.eval x = cx at hx'
  have e1 : c.args = #[x, y] := by rw [← hargs]
  have e2 : c.argTypes = #[t, u] := by rw [← htys]
  subst hsz
  cases hx' with | own _ _ _ l cap A hub hh =>
    obtain ⟨r1, r0, r2, r3⟩ := hh false eti.size els hg
    subst r0
    obtain ⟨q, hq⟩ : ∃ q, q = min ys.length l := ⟨_, rfl⟩
    have hqy : q ≤ ys.length := by omega
    have hql : q ≤ l := by omega
    have htake : ys.take l = ys.take q := by
      rw [hq]
      rcases Nat.le_total ys.length l with h | h
      · rw [Nat.min_eq_left h, List.take_of_length_le h, List.take_of_length_le (Nat.le_refl _)]
      · rw [Nat.min_eq_right h]
    rw [htake] at hok'
    rw [htake, ← hq]
    have hnat : Nat.min ys.length l = q := hq.symm
    rcases Nat.eq_zero_or_pos q with hq0 | hq0
    · -- nothing goes over
      rw [hq0]
      have hsame : splice els off (ys.take 0) = els := by simp [splice]
      rw [hsame]
      rw [hq0] at hnat
      have hfirst : (Builtin.firstCells i.size 0 (.slice B ys.length cy)).run P w = .ok #[] w := by
        cases B with
        | none => simp [Builtin.firstCells]
        | some b =>
          show (loadCells b (0 * i.size)).run P w = _
          rw [Nat.zero_mul]
          simpa using run_loadCells_list (P := P) (w := w) b [] (by simp)
      have hrun : (execOp a.eval o).run P w = .ok (.value (.int .i64 0)) w := by
        cases A with
        | none => simp [execOp, ho, resolve, hc, e1, e2, invoke, builtin, Builtin.copy_, run_underlying h1, hcx, ey, Builtin.lenOf, hnat, run_sizeOf' g1, hfirst, goInt]
        | some A => simp [execOp, ho, resolve, hc, e1, e2, invoke, builtin, Builtin.copy_, run_underlying h1, hcx, ey, Builtin.lenOf, hnat, run_sizeOf' g1, hfirst, goInt, storeCells]
      have hput_same : ∀ i, hget (hput H id (.dat false eti.size els)) i = hget H i := fun i => by
        rw [hget_hput]; split
        · rename_i e; rw [e, hg]
        · rfl
      have hs' : Step φ S H w φ S (hput H id (.dat false eti.size els)) w := ⟨.refl _ _, fun i hi => by
        rw [hput_same]; exact (Step.refl (φ := φ) (S := S) (H := H) (w := w)).keepH i hi⟩
      refine ⟨_, _, φ, .inl hrun, .d _ _ (.int _ _), ⟨hH.n0, hH.own, hH.vis, hH.inj, fun i => ?_, hH.low⟩, hs', .refl⟩
      rw [hput_same]
      exact (hH.blk i).keep hs' rfl (fun _ _ => ⟨rfl, Iff.rfl⟩)
    · have hq1 : ys[0]? = some (ys[0]'(by omega)) := List.getElem?_eq_getElem (by omega)
      have hm0 : ys[0]'(by omega) ∈ ys.take q := List.mem_of_getElem? (i := 0) (by rw [List.getElem?_take, if_pos hq0]; exact hq1)
      have hszy : szy = eti.size := by
        have h0 := hok' _ hm0
        simp only [okEl, Bool.and_eq_true, beq_iff_eq] at h0
        rw [← k1 _ (List.mem_of_getElem? hq1)]; exact h0.1
      subst hszy
      have hlenys : ∀ e ∈ ys, e.cells.length = eti.size := k1
      have hflat : Flat S w eti.size ys vals := ⟨k1, k2, k4⟩
      have hflatq : Flat S w eti.size (ys.take q) (vals.take (q * eti.size)) := by
        have hqs : q * eti.size ≤ ys.length * eti.size := Nat.mul_le_mul_right _ hqy
        refine ⟨fun e he => k1 e (List.mem_of_mem_take he), by rw [List.length_take, k2, List.length_take, Nat.min_eq_left hqy]; omega, fun i e k x he hx => ?_⟩
        rw [List.getElem?_take] at he
        split at he
        · rename_i hi
          obtain ⟨y, h1, h2⟩ := k4 i e k x he hx
          have hk : k < eti.size := by have := (List.getElem?_eq_some_iff.1 hx).1; rw [k1 e (List.mem_of_getElem? he)] at this; exact this
          have hm : (i + 1) * eti.size ≤ q * eti.size := Nat.mul_le_mul_right _ hi
          rw [Nat.add_mul, Nat.one_mul] at hm
          exact ⟨y, by rw [List.getElem?_take, if_pos (by omega)]; exact h1, h2⟩
        · cases he
      have hfirst : (Builtin.firstCells i.size q (.slice B ys.length cy)).run P w = .ok (vals.take (q * eti.size)).toArray w := by
        rw [g2]
        have hne : ys ≠ [] := fun h0 => by rw [h0] at hqy; simp at hqy; omega
        obtain ⟨Bo, oo, hBo, hco⟩ := k3 hne
        subst hBo
        show (loadCells ⟨Bo, oo, none⟩ (q * eti.size)).run P w = _
        have hl1 : (vals.take (q * eti.size)).length = q * eti.size := by
          have : q * eti.size ≤ ys.length * eti.size := Nat.mul_le_mul_right _ hqy
          rw [List.length_take, hflat.len]; omega
        have := run_loadCells_list (P := P) (w := w) ⟨Bo, oo, none⟩ (vals.take (q * eti.size)) (fun j v hj => by
          rw [List.getElem?_take] at hj
          split at hj
          · rw [addr_add]; exact hco j v hj
          · cases hj)
        rw [hl1] at this
        exact this
      rcases r3 with r3 | ⟨L, hL, rfl, hfitc⟩
      · omega
      have hb := hH.blk id
      rw [hg] at hb
      rcases hb with ⟨hn, _⟩ | ⟨L', cs, t', h1', h3, h4, h5, h6, h7⟩
      · subst hn; simp at r1; omega
      rw [hL] at h1'; cases h1'
      obtain ⟨vs, hvs⟩ : ∃ vs, vs = vals.take (q * eti.size) := ⟨_, rfl⟩
      have hvl : vs.length = q * eti.size := by
        have : q * eti.size ≤ ys.length * eti.size := Nat.mul_le_mul_right _ hqy
        rw [hvs, List.length_take, hflat.len]; omega
      have hone : ∀ v ∈ vs, v.oneCell' = true := fun v hv => hflatq.one hok' v (by rw [hvs] at hv; exact hv)
      rw [← hvs] at hfirst
      have hmul : (off + q) * eti.size ≤ els.length * eti.size := Nat.mul_le_mul_right _ (by omega)
      rw [Nat.add_mul] at hmul
      have hfit' : L.off + off * eti.size + vs.length ≤ cs.toList.length := by rw [hvl]; simp; omega
      have hst := run_storeCells_at P L.blk (L.off + off * eti.size) t' vs 0 cs w h3.heap (by simpa using hfit') hone
      simp only [Nat.add_zero] at hst
      have hrun : (execOp a.eval o).run P w = .ok (.value (.int .i64 q)) (w.setRow L.blk (splice cs.toList (L.off + off * eti.size) vs).toArray) := by
        simp only [splice]
        simp [execOp, ho, resolve, hc, e1, e2, invoke, builtin, Builtin.copy_, run_underlying h1, hcx, ey, Builtin.lenOf, hnat, run_sizeOf' g1, hfirst, goInt] at hst ⊢
        simp [hst]
      have hsz' : (splice cs.toList (L.off + off * eti.size) vs).toArray.size = cs.size := by
        rw [List.size_toArray, splice_length _ _ _ hfit']; simp
      have htq : (ys.take q).length = q := by rw [List.length_take]; omega
      have hfe : off + (ys.take q).length ≤ els.length := by omega
      have hnl : (splice els off (ys.take q)).length = els.length := splice_length _ _ _ hfe
      obtain ⟨q1, q2, q3⟩ := hH.write hL h3 (fun hs => by simpa using h7.1 hs) hsz' (.dat false eti.size (splice els off (ys.take q)))
        (by rw [hg]; simp only [SameShape]; exact ⟨trivial, by omega⟩)
        (fun hs => .inr ⟨L, _, t', hL, ⟨setRow_heap w L.blk cs _ t' (0, 0) h3.heap, h3.size.trans hsz'.symm⟩, fun e' he' => by
          simp only [splice, List.mem_append] at he'
          rcases he' with (he' | he') | he'
          · exact h4 e' (List.mem_of_mem_take he')
          · exact hlenys e' (List.mem_of_mem_take he')
          · exact h4 e' (List.mem_of_mem_drop he'), by rw [hsz', hnl]; exact h5, fun i' e' k x' he' hx' => by
          rw [splice_get _ _ _ hfe, htq] at he'
          have hcell : (splice cs.toList (L.off + off * eti.size) vs).toArray[L.off + (i' * eti.size + k)]? = if L.off + off * eti.size ≤ L.off + (i' * eti.size + k) ∧ L.off + (i' * eti.size + k) < L.off + off * eti.size + q * eti.size then vs[L.off + (i' * eti.size + k) - (L.off + off * eti.size)]? else cs[L.off + (i' * eti.size + k)]? := by
            rw [List.getElem?_toArray, splice_get _ _ _ hfit', hvl]
            simp
          rw [hcell]
          by_cases hin : off ≤ i' ∧ i' < off + q
          · rw [if_pos hin] at he'
            rw [List.getElem?_take, if_pos (by omega)] at he'
            have hk : k < eti.size := by have := (List.getElem?_eq_some_iff.1 hx').1; rw [hlenys e' (List.mem_of_getElem? he')] at this; exact this
            have hm1 : off * eti.size ≤ i' * eti.size := Nat.mul_le_mul_right _ hin.1
            have hm2 : (i' + 1) * eti.size ≤ (off + q) * eti.size := Nat.mul_le_mul_right _ hin.2
            rw [Nat.add_mul, Nat.add_mul, Nat.one_mul] at hm2
            rw [if_pos (by omega)]
            obtain ⟨y', hy1, hy2⟩ := hflat.at_ (i' - off) e' k x' he' hx'
            refine ⟨y', ?_, hy2.keep hs.keepS⟩
            have hidx : L.off + (i' * eti.size + k) - (L.off + off * eti.size) = (i' - off) * eti.size + k := by
              rw [Nat.sub_mul]; omega
            rw [hidx, hvs, List.getElem?_take, if_pos ?_]
            · exact hy1
            · rw [Nat.sub_mul]; omega
          · rw [if_neg hin] at he'
            have hk : k < eti.size := by
              have := (List.getElem?_eq_some_iff.1 hx').1
              rw [h4 e' (List.mem_of_getElem? he')] at this; exact this
            have hneg : ¬ (L.off + off * eti.size ≤ L.off + (i' * eti.size + k) ∧ L.off + (i' * eti.size + k) < L.off + off * eti.size + q * eti.size) := by
              intro ⟨g1, g2⟩
              rcases Nat.lt_or_ge i' off with hlt | hge
              · have : (i' + 1) * eti.size ≤ off * eti.size := Nat.mul_le_mul_right _ hlt
                rw [Nat.add_mul, Nat.one_mul] at this; omega
              · have : (off + q) * eti.size ≤ i' * eti.size := Nat.mul_le_mul_right _ (by omega)
                rw [Nat.add_mul] at this; omega
            rw [if_neg hneg]
            obtain ⟨c', hc1, hc2⟩ := h6 i' e' k x' he' hx'
            exact ⟨c', hc1, hc2.keep hs.keepS⟩, h7⟩)
      exact ⟨_, _, φ, .inl hrun, .d _ _ (.int _ _), q1, q2, q3⟩

end
end Go.Proofs.Ytaejlmengfahnaa.AM

set_option linter.all false
namespace Go.Proofs.Ytaejlmengfahnaa.AM
open Go Go.RowKit

section
variable {P : Program} {E : Env} {C : Ctx} {φ φ' : Nat → Option Loc} {S S' : Nat → Prop} {H H' : Heap} {w w' : World} {T : Tmps} {a : Act}

theorem all_one_not_undef {v : V} (h : v.cells.all V.one = true) : v.isUndef = false := by
  cases v with
  | d x => cases x <;> simp_all [V.isUndef, V.cells, V.one]
  | _ => rfl

theorem ok_inv {u v : V} {p : Prop} {ch : Ch} (h : ok u = some (p, v, ch)) : p = True ∧ v = u ∧ ch = .no := by
  simp only [ok, Option.some.injEq, Prod.mk.injEq] at h
  exact ⟨h.1.symm, h.2.1.symm, h.2.2.symm⟩

theorem loadD_true {ti : TI} {e : D} {j : Nat} {p : Prop} {v : V} {ch : Ch} (h : loadD ti e j = some (p, v, ch)) : p = True := by
  unfold loadD at h
  split at h
  · split at h
    · exact (ok_inv h).1
    · cases h
  · split at h
    · exact (ok_inv h).1
    · cases h

set_option maxHeartbeats 1000000 in
theorem evop_sound {o : Oper} {nid : Nat} {p : Prop} {v : V} {ch : Ch} (hE : EOk P E) (h : evop E T H nid o.op = some (p, v, ch)) (hp : p) (hu : hget H nid = .unborn) (hH : HRel C φ S H w) (hT : TRel φ S H w T a) :
    Out P C φ S H w o a v (ch.on H nid) := by
  generalize ho : o.op = op at h
  unfold evop at h
  split at h
  · -- move
    split at h
    · cases h
    · obtain ⟨rfl, rfl, rfl⟩ := ok_inv h
      exact out_move (.inl ho) hH hT
  · -- assign
    split at h
    · cases h
    · obtain ⟨rfl, rfl, rfl⟩ := ok_inv h
      exact out_move (.inr ho) hH hT
  · -- pick
    split at h
    · rename_i hc
      split at h
      · cases h
      · obtain ⟨rfl, rfl, rfl⟩ := ok_inv h
        exact out_pick (t := true) ho hc hH hT
    · rename_i hc
      split at h
      · cases h
      · obtain ⟨rfl, rfl, rfl⟩ := ok_inv h
        exact out_pick (t := false) ho hc hH hT
    · cases h
  · -- not
    split at h
    · rename_i hx
      obtain ⟨rfl, rfl, rfl⟩ := ok_inv h
      exact out_not ho hx hH hT
    · cases h
  · -- binOp
    split at h
    · rename_i k n k' m hx hy
      split at h
      · rename_i hk
        subst hk
        split at h
        · rename_i q r hr
          simp only [Option.some.injEq, Prod.mk.injEq] at h
          obtain ⟨rfl, rfl, rfl⟩ := h
          exact out_int ho hx hy hr hp hH hT
        · cases h
      · split at h
        · split at h
          · rename_i q r hr
            simp only [Option.some.injEq, Prod.mk.injEq] at h
            obtain ⟨rfl, rfl, rfl⟩ := h
            exact out_shift ho (.inl rfl) hx hy hr hp hH hT
          · cases h
        · split at h
          · rename_i q r hr
            simp only [Option.some.injEq, Prod.mk.injEq] at h
            obtain ⟨rfl, rfl, rfl⟩ := h
            exact out_shift ho (.inr rfl) hx hy hr hp hH hT
          · cases h
        · cases h
    · rename_i b b' hx hy
      split at h
      · rename_i ti hti
        split at h
        · rename_i hsh
          obtain ⟨rfl, rfl, rfl⟩ := ok_inv h
          exact out_bool ho (hE _ _ hti) hsh hx hy (.inl ⟨rfl, rfl⟩) hH hT
        · cases h
      · rename_i ti hti
        split at h
        · rename_i hsh
          obtain ⟨rfl, rfl, rfl⟩ := ok_inv h
          exact out_bool ho (hE _ _ hti) hsh hx hy (.inr ⟨rfl, rfl⟩) hH hT
        · cases h
      · cases h
    · split at h
      · rename_i ti xs ys hti hxs hys
        split at h
        · rename_i hc
          simp only [Bool.and_eq_true, Bool.not_eq_true', List.isEmpty_eq_false_iff] at hc
          obtain ⟨⟨hc1, hc2⟩, hc3⟩ := hc
          split at h
          · rename_i b hb
            obtain ⟨rfl, rfl, rfl⟩ := ok_inv h
            exact out_struct ho (hE _ _ hti) hc1 hc2 hc3 hxs hys hb (.inl ⟨rfl, rfl⟩) hH hT
          · rename_i b hb
            obtain ⟨rfl, rfl, rfl⟩ := ok_inv h
            exact out_struct ho (hE _ _ hti) hc1 hc2 hc3 hxs hys hb (.inr ⟨rfl, rfl⟩) hH hT
          · cases h
        · cases h
      · cases h
  · -- extract
    split at h
    · rename_i cs hx
      split at h
      · rename_i u hu'
        obtain ⟨rfl, rfl, rfl⟩ := ok_inv h
        exact out_extract ho hx hu' hH hT
      · cases h
    · rename_i cs hx
      split at h
      · rename_i u hu'
        obtain ⟨rfl, rfl, rfl⟩ := ok_inv h
        exact out_dextract ho hx hu' hH hT
      · cases h
    · cases h
  · -- alloc
    split at h
    · rename_i ti hti
      simp only [Option.some.injEq, Prod.mk.injEq] at h
      obtain ⟨rfl, rfl, rfl⟩ := h
      exact out_alloc ho (hE _ _ hti) hH hu
    · cases h
  · -- box
    split at h
    · rename_i ti hti
      split at h
      · cases h
      · rename_i hx
        simp only [Option.some.injEq, Prod.mk.injEq] at h
        obtain ⟨rfl, rfl, rfl⟩ := h
        exact out_box ho (by simpa using hx) hH hT hu
    · cases h
  · -- load
    split at h
    · rename_i ti e j hti hx
      have htr : p = True := loadD_true h
      subst htr
      obtain ⟨rfl, r⟩ := out_load_imm ho (hE _ _ hti) hx h hH hT
      exact r
    · rename_i ti id i j hti hx
      split at h
      · rename_i fz cells hg
        split at h
        · rename_i hi
          split at h
          · rename_i hag
            split at h
            · rename_i hle
              obtain ⟨rfl, rfl, rfl⟩ := ok_inv h
              exact out_load_box ho (hE _ _ hti) hx hi hg (by rw [if_pos hag]; exact ⟨hle, rfl⟩) hH hT
            · cases h
          · rename_i hag
            split at h
            · rename_i u hu'
              split at h
              · cases h
              · obtain ⟨rfl, rfl, rfl⟩ := ok_inv h
                exact out_load_box ho (hE _ _ hti) hx hi hg (by rw [if_neg hag]; exact hu') hH hT
            · cases h
        · cases h
      · rename_i fz sz els hg
        split at h
        · rename_i e he
          have htr : p = True := loadD_true h
          subst htr
          obtain ⟨rfl, r⟩ := out_load_dat ho (hE _ _ hti) hx hg he h hH hT
          exact r
        · cases h
      · cases h
    · cases h
  · -- store
    split at h
    · rename_i ti id i j hti hx
      split at h
      · rename_i hc
        simp only [Bool.and_eq_true, decide_eq_true_eq] at hc
        obtain ⟨hc1, hc2⟩ := hc
        split at h
        · rename_i cells hg
          split at h
          · rename_i hc3
            simp only [Bool.and_eq_true, decide_eq_true_eq] at hc3
            obtain ⟨rfl, hc4⟩ := hc3
            simp only [Option.some.injEq, Prod.mk.injEq] at h
            obtain ⟨rfl, rfl, rfl⟩ := h
            exact out_store_box ho (hE _ _ hti) hx hg hc1 hc2 hc4 (all_one_not_undef hc2) hH hT
          · cases h
        · rename_i sz els hg
          split at h
          · rename_i e ds he hds
            split at h
            · rename_i hfit
              simp only [Bool.and_eq_true, decide_eq_true_eq] at hfit
              simp only [Option.some.injEq, Prod.mk.injEq] at h
              obtain ⟨rfl, rfl, rfl⟩ := h
              exact out_store_dat ho (hE _ _ hti) hx hg he hds hc1 hfit.1 hc2 hfit.2 (all_one_not_undef hc2) hH hT
            · cases h
          · cases h
        · cases h
      · cases h
    · cases h
  · -- fieldAddr
    split at h
    · rename_i ti e j hti hx
      split at h
      · rename_i off sz hs
        split at h
        · cases h
        · rename_i h0
          obtain ⟨rfl, rfl, rfl⟩ := ok_inv h
          exact out_fieldAddr_imm ho (hE _ _ hti) hs h0 hx hH hT
      · cases h
    · rename_i ti id i j hti hx
      split at h
      · rename_i off sz hs
        split at h
        · cases h
        · rename_i h0
          split at h
          · rename_i hw
            obtain ⟨rfl, rfl, rfl⟩ := ok_inv h
            exact out_fieldAddr_ptr ho (hE _ _ hti) hs h0 hx hw hH hT
          · cases h
      · cases h
    · cases h
  · -- indexAddr
    split at h
    · rename_i ti els k n hti hx hi
      split at h
      · rename_i et hsh
        split at h
        · rename_i eti e het he
          split at h
          · rename_i hsz
            simp only [Option.some.injEq, Prod.mk.injEq] at h
            obtain ⟨rfl, rfl, rfl⟩ := h
            exact out_index_vec ho (hE _ _ hti) hsh (hE _ _ het) hx hi hp he hsz hH hT
          · cases h
        · cases h
      · cases h
    · rename_i ti id off len k n hti hx hi
      split at h
      · rename_i et fz sz els hsh hg
        split at h
        · rename_i eti het
          split at h
          · rename_i hsz
            simp only [Option.some.injEq, Prod.mk.injEq] at h
            obtain ⟨rfl, rfl, rfl⟩ := h
            exact out_index_own ho (hE _ _ hti) hsh (hE _ _ het) hx hg hi hp.1 hp.2 hsz hH hT
          · cases h
        · cases h
      · cases h
    · rename_i ti id i j k n hti hx hi
      split at h
      · rename_i m et hsh
        split at h
        · rename_i eti het
          split at h
          · rename_i hw
            simp only [Option.some.injEq, Prod.mk.injEq] at h
            obtain ⟨rfl, rfl, rfl⟩ := h
            exact out_index_array_ptr ho (hE _ _ hti) hsh (hE _ _ het) hx hi hp.1 hp.2 hw hH hT
          · cases h
        · cases h
      · cases h
    · rename_i ti e j k n hti hx hi
      split at h
      · rename_i m et hsh
        split at h
        · rename_i eti het
          simp only [Option.some.injEq, Prod.mk.injEq] at h
          obtain ⟨rfl, rfl, rfl⟩ := h
          exact out_index_array_imm ho (hE _ _ hti) hsh (hE _ _ het) hx hi hp.1 hp.2 hH hT
        · cases h
      · cases h
    · cases h
  · -- slice
    split at h
    · rename_i eti n hs hl
      split at h
      · rename_i l hh hlo hhi
        split at h
        · rename_i hx
          simp only [Option.some.injEq, Prod.mk.injEq] at h
          obtain ⟨rfl, rfl, rfl⟩ := h
          rw [hx] at hl; simp [lenOf] at hl; subst hl
          exact out_slice_nils ho hE hs hx hlo hhi hp.1 hp.2 hH hT
        · rename_i els hx
          simp only [Option.some.injEq, Prod.mk.injEq] at h
          obtain ⟨rfl, rfl, rfl⟩ := h
          rw [hx] at hl; simp [lenOf] at hl; subst hl
          exact out_slice_vec ho hE hs hx hlo hhi hp.1 hp.2.1 hp.2.2.1 hp.2.2.2 hH hT
        · rename_i id off len hx
          split at h
          · rename_i fz sz els hg
            split at h
            · rename_i hsz
              simp only [Option.some.injEq, Prod.mk.injEq] at h
              obtain ⟨rfl, rfl, rfl⟩ := h
              rw [hx] at hl; simp [lenOf, hg] at hl; subst hl
              exact out_slice_own ho hE hs hx hg hlo hhi hp.1 hp.2.1 hp.2.2 hsz hH hT
            · cases h
          · cases h
        · rename_i id off len k hx
          split at h
          · rename_i fz sz els hg
            split at h
            · rename_i hsz
              simp only [Option.some.injEq, Prod.mk.injEq] at h
              obtain ⟨rfl, rfl, rfl⟩ := h
              rw [hx] at hl; simp [lenOf, hg] at hl; subst hl
              exact out_slice_full ho hE hs hx hg hlo hhi hp.1 hp.2.1 hp.2.2.1 hp.2.2.2 hsz hH hT
            · cases h
          · cases h
        · cases h
      · cases h
    · cases h
  · -- buildSlice
    split at h
    · rename_i eti hs
      split at h
      · rename_i els hels
        split at h
        · rename_i hc
          simp only [Bool.and_eq_true, decide_eq_true_eq] at hc
          simp only [Option.some.injEq, Prod.mk.injEq] at h
          obtain ⟨rfl, rfl, rfl⟩ := h
          exact out_buildSlice ho hE hs hels hc.1 hc.2 hu hH hT
        · cases h
      · cases h
    · cases h
  · -- makeSlice
    split at h
    · rename_i eti k n k' m hs hl hc
      split at h
      · rename_i z hz
        split at h
        · rename_i hok
          simp only [Option.some.injEq, Prod.mk.injEq] at h
          obtain ⟨rfl, rfl, rfl⟩ := h
          obtain ⟨p1, p2, p3, p4⟩ := hp
          subst p2
          exact out_makeSlice ho hE hs hl hc hz hok p1 p3 p4 hu hH hT
        · cases h
      · cases h
    · cases h
  · -- index
    split at h
    · rename_i ti k n hti hi
      split at h
      · rename_i m et hsh
        split at h
        · rename_i eti het
          split at h
          · rename_i hc
            simp only [Bool.and_eq_true, decide_eq_true_eq] at hc
            split at h
            · rename_i hag
              simp only [Option.some.injEq, Prod.mk.injEq] at h
              obtain ⟨rfl, rfl, rfl⟩ := h
              exact out_index_agg ho (hE _ _ hti) hsh (hE _ _ het) hi hc.1.1 hc.1.2 hp.1 hp.2 hag hH hT
            · rename_i hag
              split at h
              · rename_i hsz
                simp only [Option.some.injEq, Prod.mk.injEq] at h
                obtain ⟨rfl, rfl, rfl⟩ := h
                exact out_index_one ho (hE _ _ hti) hsh (hE _ _ het) hi hc.1.1 hc.1.2 hp.1 hp.2 (by simpa using hag) hsz hH hT
              · cases h
          · cases h
        · cases h
      · cases h
    · cases h
  · -- lookup
    split at h
    · rename_i ti ks vs n hti hx hi
      split at h
      · rename_i d hsh hf
        obtain ⟨rfl, rfl, rfl⟩ := ok_inv h
        exact out_lookup ho (hE _ _ hti) hsh hx hi hf hH hT
      · cases h
    · cases h
  · -- build
    split at h
    · rename_i ti hti
      split at h
      · rename_i fs hsh
        split at h
        · rename_i cells hcells
          obtain ⟨rfl, rfl, rfl⟩ := ok_inv h
          exact out_build_struct ho (hE _ _ hti) hsh hcells hH hT
        · cases h
      · rename_i m et hsh
        split at h
        · rename_i eti het
          split at h
          · rename_i cells hcells
            split at h
            · obtain ⟨rfl, rfl, rfl⟩ := ok_inv h
              exact out_build_array ho (hE _ _ hti) hsh (hE _ _ het) hcells hH hT
            · cases h
          · cases h
        · cases h
      · cases h
    · cases h
  · -- makeFunc
    split at h
    · rename_i h0
      obtain ⟨rfl, rfl, rfl⟩ := ok_inv h
      exact out_makeFunc ho hH hT
    · cases h
  · -- nilCheck
    split at h
    · rename_i hx
      obtain ⟨rfl, rfl, rfl⟩ := ok_inv h
      exact out_nilCheck ho hx hH hT
    · cases h
  · -- convert
    split at h
    · rename_i si ti k n hsi hti hx
      split at h
      · rename_i kk hsh
        obtain ⟨rfl, rfl, rfl⟩ := ok_inv h
        exact out_convert ho (hE _ _ hsi) (hE _ _ hti) hsh hx hH hT
      · cases h
    · cases h
  · -- len
    split at h
    · rename_i x t hargs htys
      split at h
      · rename_i eti n hs hl
        obtain ⟨rfl, rfl, rfl⟩ := ok_inv h
        exact out_len ho rfl hargs htys hE hs hl hH hT
      · cases h
    · cases h
  · -- append
    split at h
    · rename_i x y t u hargs htys
      split at h
      · rename_i eti uti ys hs hs' hy
        split at h
        · rename_i hc
          simp only [Bool.and_eq_true, decide_eq_true_eq] at hc
          obtain ⟨rfl, hb⟩ := hc
          split at h
          · rename_i hx
            simp only [Option.some.injEq, Prod.mk.injEq] at h
            obtain ⟨rfl, rfl, rfl⟩ := h
            exact out_append_nils ho rfl hargs htys hE hs hx hy hb hp.1 hp.2 hu hH hT
          · rename_i id off len hx
            split at h
            · rename_i sz els hg
              split at h
              · rename_i hsz
                simp only [Option.some.injEq, Prod.mk.injEq] at h
                obtain ⟨rfl, rfl, rfl⟩ := h
                exact out_append_own ho rfl hargs htys hE hs hx hg hsz hy hb hp.1 hp.2 hu hH hT
              · cases h
            · cases h
          · cases h
        · cases h
      · rename_i eti hs hs'
        split at h
        · rename_i ui id off len k kq n hui hx hy
          split at h
          · rename_i kn fz sz els z hush hg hz
            split at h
            · rename_i hc
              simp only [Bool.and_eq_true, decide_eq_true_eq] at hc
              simp only [Option.some.injEq, Prod.mk.injEq] at h
              obtain ⟨rfl, rfl, rfl⟩ := h
              exact out_append_zeros ho rfl hargs htys hE hs (hE _ _ hui) hush hx hg hc.1.1.1 hy hz hc.1.1.2 hc.1.2 hc.2 hp.1 hp.2.1 hp.2.2 hu hH hT
            · cases h
          · cases h
        · cases h
      · cases h
    · cases h
  · -- min
    split at h
    · rename_i x y hargs
      split at h
      · rename_i k n k' m hx hy
        obtain ⟨rfl, rfl, rfl⟩ := ok_inv h
        exact out_min ho rfl hargs hx hy hH hT
      · cases h
    · cases h
  · -- max
    split at h
    · rename_i x y hargs
      split at h
      · rename_i k n k' m hx hy
        obtain ⟨rfl, rfl, rfl⟩ := ok_inv h
        exact out_max ho rfl hargs hx hy hH hT
      · cases h
    · rename_i x y z hargs
      split at h
      · rename_i k n k' m k'' l hx hy hz
        obtain ⟨rfl, rfl, rfl⟩ := ok_inv h
        exact out_max3 ho rfl hargs hx hy hz hH hT
      · cases h
    · cases h
  · -- cap
    split at h
    · rename_i x t hargs htys
      split at h
      · rename_i eti id off len k hs hx
        obtain ⟨rfl, rfl, rfl⟩ := ok_inv h
        exact out_cap ho rfl hargs htys hE hs hx hH hT
      · cases h
    · cases h
  · -- copy
    split at h
    · rename_i x y t u hargs htys
      split at h
      · rename_i eti uti id off len ys hs hs' hx hy
        split at h
        · rename_i sz els hg
          split at h
          · rename_i hc
            simp only [Option.some.injEq, Prod.mk.injEq] at h
            obtain ⟨rfl, rfl, rfl⟩ := h
            exact out_copy_own ho rfl hargs htys hE hs (.inl hx) hg hc hy hp hH hT
          · cases h
        · cases h
      · rename_i eti uti id off len k ys hs hs' hx hy
        split at h
        · rename_i sz els hg
          split at h
          · rename_i hc
            simp only [Option.some.injEq, Prod.mk.injEq] at h
            obtain ⟨rfl, rfl, rfl⟩ := h
            exact out_copy_own ho rfl hargs htys hE hs (.inr ⟨_, hx⟩) hg hc hy hp hH hT
          · cases h
        · cases h
      · cases h
    · cases h
  · -- clear
    split at h
    · rename_i x t hargs htys
      split at h
      · rename_i eti id off len hs hx
        split at h
        · rename_i sz els z hg hz
          split at h
          · rename_i hc
            simp only [Bool.and_eq_true, decide_eq_true_eq] at hc
            simp only [Option.some.injEq, Prod.mk.injEq] at h
            obtain ⟨rfl, rfl, rfl⟩ := h
            exact out_clear ho rfl hargs htys hE hs hx hg hz hc.1 hc.2 hH hT
          · cases h
        · cases h
      · cases h
    · cases h
  · cases h

end
end Go.Proofs.Ytaejlmengfahnaa.AM

set_option linter.all false
namespace Go.Proofs.Ytaejlmengfahnaa.AM
open Go Go.RowKit

mutual
def xport (H : Heap) : Nat → V → Option D
  | 0, _ => none
  | n + 1, v => match v with
    | .d x => some x
    | .nils => some (.vec [])
    | .ptr id i j => match hget H id with
      | .box _ cells => if i = 0 then (match xports H n cells with | some ds => some (.imm (.agg ds) j) | none => none) else none
      | .dat _ _ els => match els[i]? with
        | some e => some (.imm e j)
        | none => none
      | _ => none
    | .own id off len => match hget H id with
      | .dat _ _ els => some (.vec ((els.drop off).take len))
      | _ => none
    | .full _ _ _ _ => none
    | .agg vs => match xports H n vs with
      | some ds => some (.agg ds)
      | none => none
    | .tuple vs => match xports H n vs with
      | some ds => some (.tuple ds)
      | none => none
    | .func f vs => match xports H n vs with
      | some ds => some (.func f ds)
      | none => none
def xports (H : Heap) : Nat → List V → Option (List D)
  | 0, _ => none
  | _ + 1, [] => some []
  | n + 1, v :: r => match xport H n v, xports H n r with
    | some x, some xs => some (x :: xs)
    | _, _ => none
end

def D.scalar : D → Bool
  | .bool _ | .int _ _ | .nilp | .nilf | .undef => true
  | _ => false
def D.flat : D → Bool
  | .agg cs | .tuple cs => cs.all D.scalar
  | x => x.scalar

def Callable (P : Program) (f : Nat) : Prop := ∀ (args : Array Value) (w : World), (callFunc f args).run P w = .ok (.enter f args) w

def CSpec (P : Program) (f : Nat) (args : List D) (r : D) : Prop :=
  Callable P f ∧ ∀ (S0 : Nat → Prop) (w : World) (cs : List Value), (∀ B, S0 B → B < w.heap.size) → args.length = cs.length →
    (∀ (i : Nat) (d : D) (c : Value), args[i]? = some d → cs[i]? = some c → RD S0 w d c) →
    Calls P f cs.toArray w fun e w' => ∃ c S', e = .returned c ∧ RD S' w' r c ∧ (∀ B, S' B → (S0 B ∨ w.heap.size ≤ B) ∧ B < w'.heap.size) ∧ Kp ⟨w.heap.size, fun _ => False, S0⟩ w w'

def RSpec (P : Program) (f : Nat) (vs : List V) (H : Heap) (r : V) (H' : Heap) : Prop :=
  Callable P f ∧ ∀ (C : Ctx) (φ : Nat → Option Loc) (S : Nat → Prop) (w : World) (cs : List Value), HRel C φ S H w → RVs φ S H w vs cs →
    Calls P f cs.toArray w fun e w' => ∃ c φ' S', e = .returned c ∧ RV φ' S' H' w' r c ∧ HRel C φ' S' H' w' ∧ Step φ S H w φ' S' H' w' ∧ Kp C w w'

def NSpec (P : Program) (f : Nat) (vs : List V) (H : Heap) (Qf : V → Heap → Prop) : Prop :=
  Callable P f ∧ ∀ (C : Ctx) (φ : Nat → Option Loc) (S : Nat → Prop) (w : World) (cs : List Value), HRel C φ S H w → RVs φ S H w vs cs →
    Calls P f cs.toArray w fun e w' => ∃ r H', Qf r H' ∧ ∃ c φ' S', e = .returned c ∧ RV φ' S' H' w' r c ∧ HRel C φ' S' H' w' ∧ Step φ S H w φ' S' H' w' ∧ Kp C w w'

theorem RSpec.n {P : Program} {f : Nat} {vs : List V} {H H' : Heap} {r : V} (h : RSpec P f vs H r H') : NSpec P f vs H (fun a b => a = r ∧ b = H') :=
  ⟨h.1, fun C φ S w cs hH hv => (h.2 C φ S w cs hH hv).mono (fun e w' hp => ⟨r, H', ⟨rfl, rfl⟩, hp⟩)⟩

theorem NSpec.r {P : Program} {f : Nat} {vs : List V} {H H' : Heap} {r : V} {Qf : V → Heap → Prop} (h : NSpec P f vs H Qf) (hQ : ∀ a b, Qf a b → a = r ∧ b = H') : RSpec P f vs H r H' :=
  ⟨h.1, fun C φ S w cs hH hv => (h.2 C φ S w cs hH hv).mono (fun e w' ⟨a, b, hq, hp⟩ => by obtain ⟨rfl, rfl⟩ := hQ a b hq; exact hp)⟩

theorem NSpec.weak {P : Program} {f : Nat} {vs : List V} {H : Heap} {Q1 Q2 : V → Heap → Prop} (h : NSpec P f vs H Q1) (hQ : ∀ a b, Q1 a b → Q2 a b) : NSpec P f vs H Q2 :=
  ⟨h.1, fun C φ S w cs hH hv => (h.2 C φ S w cs hH hv).mono (fun e w' ⟨a, b, hq, hp⟩ => ⟨a, b, hQ a b hq, hp⟩)⟩

section
variable {P : Program} {E : Env} {C : Ctx} {φ φ' : Nat → Option Loc} {S S' : Nat → Prop} {H H' : Heap} {w w' : World} {T : Tmps} {a : Act}

mutual
def tids (H : Heap) : Nat → V → List Nat
  | 0, _ => []
  | n + 1, v => match v with
    | .ptr id _ _ => match hget H id with
      | .box _ cells => id :: tidss H n cells
      | _ => [id]
    | .own id _ _ => [id]
    | .agg vs | .tuple vs | .func _ vs => tidss H n vs
    | _ => []
def tidss (H : Heap) : Nat → List V → List Nat
  | 0, _ => []
  | _ + 1, [] => []
  | n + 1, v :: r => tids H n v ++ tidss H n r
end

mutual
theorem xport_rel {S1 : Nat → Prop} (hH : HRel C φ S H w) (hS : ∀ B, S B → S1 B) : ∀ (n : Nat) (v : V) (c : Value) (x : D), (∀ id ∈ tids H n v, ∀ L, φ id = some L → S1 L.blk) → RV φ S H w v c → xport H n v = some x → RD S1 w x c
  | 0, v, c, x, _, _, h => by simp [xport] at h
  | n + 1, v, c, x, ht, hv, h => by
    have hkeep : KeepS S w S1 w := fun B hB _ => ⟨hS B hB, rfl⟩
    cases v with
    | d y => simp [xport] at h; subst h; cases hv with | d _ _ h => exact h.keep hkeep
    | nils => simp [xport] at h; subst h; exact (RV.clo_rel (x := .vec []) hv rfl).keep hkeep
    | ptr id i j =>
      simp only [xport] at h
      split at h
      · rename_i fz cells hg
        split at h
        · rename_i hi
          subst hi
          split at h
          · rename_i ds hds
            simp at h; subst h
            obtain ⟨L, hL, rfl, _⟩ := hv.ptr_inv (sz := cells.length) (by rw [hg]; rfl)
            have hb := hH.blk id
            rw [hg] at hb
            obtain ⟨L', cs, t, h1, h2, h3, h4, h5, h6⟩ := hb
            rw [hL] at h1; cases h1
            have hS1 : S1 L.blk := ht id (by simp [tids, hg]) L hL
            obtain ⟨q1, q2⟩ := xports_rel hH hS n cells cs.toList ds (fun id' hid' => ht id' (by simp [tids, hg, hid'])) ⟨by simpa using h4, fun k v c hk hc => h5 k v c hk (by simpa using hc)⟩ hds
            have hget : ∀ (k : Nat) (y : D), (D.agg ds).cells[k]? = some y → ∃ c, cs[k]? = some c ∧ RD S1 w y c := fun k y hy => by
              have hk : k < cs.size := by have := (List.getElem?_eq_some_iff.1 hy).1; simp [D.cells] at this; rw [q1] at this; simpa using this
              exact ⟨cs[k], by simp [hk], q2 k y cs[k] hy (by simp [hk])⟩
            have := RD.imm (S := S1) (w := w) (.agg ds) j L.blk 0 (fun k => cs.getD k undef) (fun k y hy => by
              obtain ⟨c, hc, _⟩ := hget k y hy
              exact ⟨hS1, by rw [cell_of_row w L.blk _ cs t (0, 0) h3.heap]; simp [hc]⟩) (fun k y hy => by
              obtain ⟨c, hc, hr⟩ := hget k y hy
              simpa [hc] using hr)
            simpa [h2] using this
          · cases h
        · cases h
      · rename_i fz sz els hg
        split at h
        · rename_i e he
          simp at h; subst h
          obtain ⟨L, hL, rfl, _⟩ := hv.ptr_inv (sz := sz) (by rw [hg]; rfl)
          have hb := hH.blk id
          rw [hg] at hb
          rcases hb with ⟨hn, _⟩ | ⟨L', cs, t, h1, h2, h3, h4, h5, h6⟩
          · subst hn; simp at he
          rw [hL] at h1; cases h1
          have hS1 : S1 L.blk := ht id (by simp [tids, hg]) L hL
          exact RD.imm e j L.blk (L.off + i * sz) (fun k => cs.getD (L.off + (i * sz + k)) undef) (fun k y hy => by
            obtain ⟨c, hc, _⟩ := h5 i e k y he hy
            exact ⟨hS1, by rw [cell_of_row w L.blk _ cs t (0, 0) h2.heap, Nat.add_assoc]; simp [hc]⟩) (fun k y hy => by
            obtain ⟨c, hc, hr⟩ := h5 i e k y he hy
            simpa [hc] using hr.keep hkeep)
        · cases h
      · cases h
    | own id off len =>
      simp only [xport] at h
      split at h
      · rename_i fz sz els hg
        simp at h; subst h
        have hel' : elems H (.own id off len) = some ((els.drop off).take len) := by simp [elems, hg]
        obtain ⟨A, cap, rfl, szz, vals, k1, k2, k3, k4⟩ := elems_rel hH hv hel'
        cases hv with | own _ _ _ l _ _ hub hh =>
          obtain ⟨r1, r0, r2, r3⟩ := hh fz sz els hg
          have hb := hH.blk id
          rw [hg] at hb
          by_cases hne : (els.drop off).take len = []
          · rw [hne]
            exact .vec [] A cap 0 0 0 (fun _ => undef) (Nat.zero_le _) (fun h => absurd rfl h) (fun e he => by simp at he) (fun i e k x he => by simp at he) (fun i e k x he => by simp at he)
          · obtain ⟨B, o, hA, hcells⟩ := k3 hne
            have hSB : S1 B := by
              rcases r3 with r3 | ⟨L, hL, hA', _⟩
              · exfalso; apply hne; apply List.eq_nil_of_length_eq_zero; omega
              · rw [hA] at hA'; simp at hA'; rw [hA'.1]; exact ht id (by simp [tids]) L hL
            refine .vec _ A cap B o szz (fun k => vals.getD k undef) (by omega) (fun _ => hA) k1 (fun i e k x he hx => ?_) (fun i e k x he hx => ?_)
            · obtain ⟨y, hy, _⟩ := k4 i e k x he hx
              exact ⟨hSB, by rw [hcells _ y hy]; simp [hy]⟩
            · obtain ⟨y, hy, hr⟩ := k4 i e k x he hx
              simpa [hy] using hr.keep hkeep
      · cases h
    | full => simp [xport] at h
    | agg vs =>
      simp only [xport] at h
      split at h
      · rename_i ds hds
        simp at h; subst h
        cases hv with | agg _ cs hl hh =>
          obtain ⟨q1, q2⟩ := xports_rel hH hS n vs cs ds (fun id hid => ht id (by simpa [tids] using hid)) ⟨hl, hh⟩ hds
          exact .agg ds cs q1 q2
      · cases h
    | tuple vs =>
      simp only [xport] at h
      split at h
      · rename_i ds hds
        simp at h; subst h
        cases hv with | tuple _ cs hl hh =>
          obtain ⟨q1, q2⟩ := xports_rel hH hS n vs cs ds (fun id hid => ht id (by simpa [tids] using hid)) ⟨hl, hh⟩ hds
          exact .tuple ds cs q1 q2
      · cases h
    | func f vs =>
      simp only [xport] at h
      split at h
      · rename_i ds hds
        simp at h; subst h
        cases hv with | func _ _ cs hl hh =>
          obtain ⟨q1, q2⟩ := xports_rel hH hS n vs cs ds (fun id hid => ht id (by simpa [tids] using hid)) ⟨hl, hh⟩ hds
          exact .func f ds cs q1 q2
      · cases h
theorem xports_rel {S1 : Nat → Prop} (hH : HRel C φ S H w) (hS : ∀ B, S B → S1 B) : ∀ (n : Nat) (vs : List V) (cs : List Value) (ds : List D), (∀ id ∈ tidss H n vs, ∀ L, φ id = some L → S1 L.blk) → RVs φ S H w vs cs → xports H n vs = some ds →
    ds.length = cs.length ∧ ∀ (i : Nat) (d : D) (c : Value), ds[i]? = some d → cs[i]? = some c → RD S1 w d c
  | 0, vs, cs, ds, _, _, h => by simp [xports] at h
  | n + 1, [], cs, ds, _, hv, h => by
    simp [xports] at h; subst h
    exact ⟨hv.len, fun i d c hd => by simp at hd⟩
  | n + 1, v :: r, cs, ds, ht, hv, h => by
    simp only [xports] at h
    split at h
    · rename_i x xs hx hxs
      simp at h; subst h
      cases cs with
      | nil => have := hv.len; simp at this
      | cons c cs =>
        have h0 := hv.at_ 0 v c rfl rfl
        have hr : RVs φ S H w r cs := ⟨by simpa using hv.len, fun i v c hi hc => hv.at_ (i + 1) v c (by simpa using hi) (by simpa using hc)⟩
        obtain ⟨q1, q2⟩ := xports_rel hH hS n r cs xs (fun id hid => ht id (by simp [tidss, hid])) hr hxs
        have q0 := xport_rel hH hS n v c x (fun id hid => ht id (by simp [tidss, hid])) h0 hx
        refine ⟨by simp [q1], fun i d c' hd hc => ?_⟩
        cases i with
        | zero => simp at hd hc; subst hd; subst hc; exact q0
        | succ i => exact q2 i d c' (by simpa using hd) (by simpa using hc)
    · cases h
end

theorem RD.of_scalar {S1 : Nat → Prop} {x : D} {c : Value} {w1 : World} (h : RD S w x c) (hs : x.scalar = true) : RD S1 w1 x c := by
  cases h <;> first | (simp [D.scalar] at hs; done) | constructor

theorem RD.of_flat {S1 : Nat → Prop} {x : D} {c : Value} {w1 : World} (h : RD S w x c) (hs : x.flat = true) : RD S1 w1 x c := by
  cases h with
  | agg ds cs hl hh => exact .agg ds cs hl fun i d c hd hc => (hh i d c hd hc).of_scalar (List.all_eq_true.1 hs d (List.mem_of_getElem? hd))
  | tuple ds cs hl hh => exact .tuple ds cs hl fun i d c hd hc => (hh i d c hd hc).of_scalar (List.all_eq_true.1 hs d (List.mem_of_getElem? hd))
  | bool b => exact .bool b
  | int k n => exact .int k n
  | nilp => exact .nilp
  | nilf => exact .nilf
  | undef c => exact .undef c
  | func => simp [D.flat, D.scalar] at hs
  | fmap => simp [D.flat, D.scalar] at hs
  | vec => simp [D.flat, D.scalar] at hs
  | imm => simp [D.flat, D.scalar] at hs

theorem CSpec.flat {f : Nat} {vs : List V} {ds : List D} {r : D} (n : Nat) (hx : xports H n vs = some ds) (h : CSpec P f ds r) (hr : r.flat = true) : RSpec P f vs H (.d r) H := by
  refine ⟨h.1, ?_⟩
  intro C φ S w cs hH hv
  obtain ⟨q1, q2⟩ := xports_rel (S1 := fun B => B < w.heap.size) hH hH.low n vs cs ds (fun id _ L hL => hH.lt hL) hv hx
  refine (h.2 (fun B => B < w.heap.size) w cs (fun _ h => h) q1 q2).mono ?_
  rintro e w' ⟨c, S', rfl, h1, h2, h3⟩
  have hsame : ∀ B, B < w.heap.size → w'.heap[B]? = w.heap[B]? := fun B hB => h3.block B hB (fun h => h)
  have hst : Step φ S H w φ S H w' := ⟨fun B hB hlt => ⟨hB, hsame B hlt⟩, (Step.refl (φ := φ) (S := S) (H := H) (w := w)).keepH⟩
  refine ⟨c, φ, S, rfl, .d _ _ (h1.of_flat hr), ⟨Nat.le_trans hH.n0 h3.size, hH.own, hH.vis, hH.inj, fun id => (hH.blk id).keep hst rfl (fun L hL => ⟨hsame _ (hH.lt hL), Iff.rfl⟩), fun B hB => Nat.lt_of_lt_of_le (hH.low B hB) h3.size⟩, hst,
    ⟨h3.os, h3.tape, h3.output, h3.size, fun B hB _ => hsame B (Nat.lt_of_lt_of_le hB hH.n0)⟩⟩

def Blk.ice : Blk → Blk
  | .box _ cells => .box true cells
  | .dat _ sz els => .dat true sz els
  | b => b

def freeze (H : Heap) : List Nat → Heap
  | [] => H
  | id :: r => freeze (hput H id (hget H id).ice) r

theorem HRel.freeze1 (hH : HRel C φ S H w) (id : Nat) (hne : hget H id ≠ .unborn) : ∃ S1, HRel C φ S1 (hput H id (hget H id).ice) w ∧ Step φ S H w φ S1 (hput H id (hget H id).ice) w ∧ ∀ L, φ id = some L → S1 L.blk := by
  refine ⟨fun B => S B ∨ ∃ L, φ id = some L ∧ L.blk = B, ?_⟩
  have hst : Step φ S H w φ (fun B => S B ∨ ∃ L, φ id = some L ∧ L.blk = B) (hput H id (hget H id).ice) w := ⟨fun B hB _ => ⟨.inl hB, rfl⟩, fun i hi => by
    rw [hget_hput]
    by_cases e : i = id
    · subst e
      rw [if_pos rfl]
      cases hb : hget H i <;> simp [Blk.ice, SameShape]
      exact hi hb
    · rw [if_neg e]
      by_cases hd : hget H i = .dead
      · exact .inl hd
      · exact .inr ⟨.refl hi hd, rfl⟩⟩
  refine ⟨⟨hH.n0, hH.own, ?_, hH.inj, ?_, ?_⟩, hst, fun L hL => .inr ⟨L, hL, rfl⟩⟩
  · rintro B (hB | ⟨L, hL, rfl⟩)
    · exact hH.vis B hB
    · rcases hH.own id L hL with h | h
      · exact .inr (.inl h)
      · exact .inr (.inr h)
  · intro i
    rw [hget_hput]
    by_cases e : i = id
    · subst e
      rw [if_pos rfl]
      have hb := hH.blk i
      cases hg : hget H i with
      | unborn => exact absurd hg hne
      | dead => rw [hg] at hb; exact hb
      | box fz cells =>
        rw [hg] at hb
        obtain ⟨L, cs, t, h1, h2, h3, h4, h5, h6⟩ := hb
        rw [hg] at hst
        exact ⟨L, cs, t, h1, h2, h3, h4, fun k v c hk hc => (h5 k v c hk hc).step hst, by simp [h1]⟩
      | dat fz sz els =>
        rw [hg] at hb
        rw [hg] at hst
        rcases hb with h | ⟨L, cs, t, h1, h2, h3, h4, h5, h6⟩
        · exact .inl h
        · exact .inr ⟨L, cs, t, h1, h2, h3, h4, fun i e k x he hx => by
            obtain ⟨c, hc, hr⟩ := h5 i e k x he hx
            exact ⟨c, hc, hr.keep hst.keepS⟩, by simp [h1]⟩
    · rw [if_neg e]
      refine (hH.blk i).keep hst rfl (fun L hL => ⟨rfl, ⟨fun h => ?_, .inl⟩⟩)
      rcases h with h | ⟨L', hL', he⟩
      · exact h
      · exact absurd (hH.inj i id L L' hL hL' he.symm) e
  · rintro B (hB | ⟨L, hL, rfl⟩)
    · exact hH.low B hB
    · exact hH.lt hL

end
end Go.Proofs.Ytaejlmengfahnaa.AM

set_option linter.all false
namespace Go.Proofs.Ytaejlmengfahnaa.AM
open Go Go.RowKit

section
variable {P : Program} {E : Env} {C : Ctx} {φ φ' : Nat → Option Loc} {S S' : Nat → Prop} {H H' : Heap} {w w' : World} {T : Tmps} {a : Act}

theorem KeepS.trans {S'' : Nat → Prop} {w'' : World} (h : KeepS S w S' w') (h' : KeepS S' w' S'' w'') (hsz : w.heap.size ≤ w'.heap.size) : KeepS S w S'' w'' := fun B hB hlt => by
  obtain ⟨h1, h2⟩ := h B hB hlt
  obtain ⟨h3, h4⟩ := h' B h1 (Nat.lt_of_lt_of_le hlt hsz)
  exact ⟨h3, h4.trans h2⟩

theorem SameShape.trans {a b c : Blk} (h : SameShape a b) (h' : SameShape b c) : SameShape a c := by
  cases a <;> cases b <;> cases c <;> simp [SameShape] at h h' ⊢ <;> omega

theorem SameShape.alive {a b : Blk} (h : SameShape a b) : b ≠ .unborn := by
  cases a <;> cases b <;> simp [SameShape] at h ⊢

structure StepM (m : Nat) (φ : Nat → Option Loc) (S : Nat → Prop) (H : Heap) (w : World) (φ' : Nat → Option Loc) (S' : Nat → Prop) (H' : Heap) (w' : World) : Prop where
  keepS : KeepS S w S' w'
  size : w.heap.size ≤ w'.heap.size
  keepH : ∀ id, id < m → hget H id ≠ .unborn → hget H' id = .dead ∨ (SameShape (hget H id) (hget H' id) ∧ φ' id = φ id)

theorem StepM.refl {m : Nat} : StepM m φ S H w φ S H w := ⟨.refl _ _, Nat.le_refl _, fun id _ h => (Step.refl (φ := φ) (S := S) (H := H) (w := w)).keepH id h⟩

theorem Step.toM {m : Nat} (h : Step φ S H w φ' S' H' w') (hsz : w.heap.size ≤ w'.heap.size) : StepM m φ S H w φ' S' H' w' := ⟨h.keepS, hsz, fun id _ hu => h.keepH id hu⟩

theorem StepM.trans {m : Nat} {φ'' : Nat → Option Loc} {S'' : Nat → Prop} {H'' : Heap} {w'' : World} (h : StepM m φ S H w φ' S' H' w') (h' : StepM m φ' S' H' w' φ'' S'' H'' w'') : StepM m φ S H w φ'' S'' H'' w'' := by
  refine ⟨h.keepS.trans h'.keepS h.size, Nat.le_trans h.size h'.size, fun id hm hu => ?_⟩
  rcases h.keepH id hm hu with hd | ⟨hs, hφ⟩
  · rcases h'.keepH id hm (by rw [hd]; simp) with hd' | ⟨hs', _⟩
    · exact .inl hd'
    · rw [hd] at hs'; simp [SameShape] at hs'
  · rcases h'.keepH id hm hs.alive with hd' | ⟨hs', hφ'⟩
    · exact .inl hd'
    · exact .inr ⟨hs.trans hs', hφ'.trans hφ⟩

theorem Step.trans {φ'' : Nat → Option Loc} {S'' : Nat → Prop} {H'' : Heap} {w'' : World} (h : Step φ S H w φ' S' H' w') (h' : Step φ' S' H' w' φ'' S'' H'' w'') (hsz : w.heap.size ≤ w'.heap.size) (hsz' : w'.heap.size ≤ w''.heap.size) : Step φ S H w φ'' S'' H'' w'' := by
  refine ⟨h.keepS.trans h'.keepS hsz, fun id hu => ?_⟩
  have := ((h.toM (m := id + 1) hsz).trans (h'.toM hsz')).keepH id (Nat.lt_succ_self _) hu
  exact this

theorem HRel.freeze (hH : HRel C φ S H w) : ∀ (ids : List Nat) {H : Heap} {S : Nat → Prop}, HRel C φ S H w → ∃ S1, HRel C φ S1 (freeze H ids) w ∧ Step φ S H w φ S1 (freeze H ids) w ∧ ∀ id ∈ ids, ∀ L, φ id = some L → S1 L.blk
  | [], H, S, hH => ⟨S, hH, .refl, fun id h => by simp at h⟩
  | id :: r, H, S, hH' => by
    by_cases hu : hget H id = .unborn
    · -- nothing is there
      have hφ : φ id = none := by have := hH'.blk id; rw [hu] at this; exact this
      have hsame : ∀ i, hget (hput H id (hget H id).ice) i = hget H i := fun i => by
        rw [hget_hput]; split
        · rename_i e; rw [e, hu]; rfl
        · rfl
      have hst : Step φ S H w φ S (hput H id (hget H id).ice) w := ⟨.refl _ _, fun i hi => by
        rw [hsame]; exact (Step.refl (φ := φ) (S := S) (H := H) (w := w)).keepH i hi⟩
      have hH1 : HRel C φ S (hput H id (hget H id).ice) w := ⟨hH'.n0, hH'.own, hH'.vis, hH'.inj, fun i => by rw [hsame]; exact (hH'.blk i).keep hst rfl (fun _ _ => ⟨rfl, Iff.rfl⟩), hH'.low⟩
      obtain ⟨S1, q1, q2, q3⟩ := HRel.freeze hH r hH1
      refine ⟨S1, q1, hst.trans q2 (Nat.le_refl _) (Nat.le_refl _), fun i hi L hL => ?_⟩
      rcases List.mem_cons.1 hi with rfl | hi
      · rw [hφ] at hL; cases hL
      · exact q3 i hi L hL
    · obtain ⟨S0, p1, p2, p3⟩ := hH'.freeze1 id hu
      obtain ⟨S1, q1, q2, q3⟩ := HRel.freeze hH r p1
      refine ⟨S1, q1, p2.trans q2 (Nat.le_refl _) (Nat.le_refl _), fun i hi L hL => ?_⟩
      rcases List.mem_cons.1 hi with rfl | hi
      · exact (q2.keepS L.blk (p3 L hL) (hH'.lt hL)).1
      · exact q3 i hi L hL

theorem CSpec.ice {f : Nat} {vs : List V} {ds : List D} {r : D} (n : Nat) (hx : xports H n vs = some ds) (h : CSpec P f ds r) : RSpec P f vs H (.d r) (freeze H (tidss H n vs)) := by
  refine ⟨h.1, ?_⟩
  intro C φ S w cs hH hv
  obtain ⟨S1, p1, p2, p3⟩ := HRel.freeze hH (tidss H n vs) hH
  obtain ⟨q1, q2⟩ := xports_rel (S1 := S1) hH (fun B hB => (p2.keepS B hB (hH.low B hB)).1) n vs cs ds p3 hv hx
  refine (h.2 S1 w cs p1.low q1 q2).mono ?_
  rintro e w' ⟨c, S', rfl, h1, h2, h3⟩
  have hsame : ∀ B, B < w.heap.size → w'.heap[B]? = w.heap[B]? := fun B hB => h3.block B hB (fun h => h)
  have hst : Step φ S1 (AM.freeze H (tidss H n vs)) w φ (fun B => S1 B ∨ S' B) (AM.freeze H (tidss H n vs)) w' :=
    ⟨fun B hB hlt => ⟨.inl hB, hsame B hlt⟩, (Step.refl (φ := φ) (S := S) (H := AM.freeze H (tidss H n vs)) (w := w)).keepH⟩
  refine ⟨c, φ, fun B => S1 B ∨ S' B, rfl, .d _ _ (h1.keep (fun B hB _ => ⟨.inr hB, rfl⟩)), ⟨Nat.le_trans hH.n0 h3.size, hH.own, ?_, hH.inj, fun id => (p1.blk id).keep hst rfl (fun L hL => ⟨hsame _ (hH.lt hL), ⟨fun hh => ?_, .inl⟩⟩), ?_⟩,
    p2.trans hst (Nat.le_refl _) h3.size, ⟨h3.os, h3.tape, h3.output, h3.size, fun B hB _ => hsame B (Nat.lt_of_lt_of_le hB hH.n0)⟩⟩
  · rintro B (hB | hB)
    · exact p1.vis B hB
    · rcases (h2 B hB).1 with h | h
      · exact p1.vis B h
      · exact .inr (.inr (Nat.le_trans hH.n0 h))
  · rcases hh with hh | hh
    · exact hh
    · rcases (h2 _ hh).1 with h | h
      · exact h
      · have := hH.lt hL; omega
  · rintro B (hB | hB)
    · exact Nat.lt_of_lt_of_le (p1.low B hB) h3.size
    · exact (h2 B hB).2

end


inductive Ex where
  | normal
  | exit (id : Nat)
  | ret

def Ex.of : Ex → Exit
  | .normal => .normal
  | .exit id => .exit id
  | .ret => .ret

def withArgs (k : Nat) (vs as : List V) : List V := vs.take k ++ (as ++ vs.drop k)

def calleeOf (T : Tmps) (fo : Operand) : Option (Nat × (List V → List V)) :=
  match ev T fo with
  | .func f cap => some (f.1, withArgs f.2 cap)
  | .d (.func f cap) => some (f.1, withArgs f.2 (cap.map V.d))
  | _ => none

def nilTest (E : Env) (T : Tmps) : Op → Option (Bool × Prop × Prop)
  | .binOp .eql t x (.const (.slice none 0 0)) _ => match sliceOf E t, ev T x with
    | some _, .nils => some (true, True, False)
    | some _, .d (.vec els) => some (true, els = [], True)
    | _, _ => none
  | .binOp .neq t x (.const (.slice none 0 0)) _ => match sliceOf E t, ev T x with
    | some _, .nils => some (false, True, False)
    | some _, .d (.vec els) => some (false, els = [], True)
    | _, _ => none
  | _ => none

def astep (P : Program) (E : Env) (n : Nat) (o : Oper) (T : Tmps) (H : Heap) (K : Tmps → Heap → Prop) : Prop :=
  match o.op with
  | .call { callee := .value fo, args, .. } => match calleeOf T fo with
    | some (f, gg) => ∃ Qf, NSpec P f (gg (args.toList.map (ev T))) H Qf ∧ ∀ r H', Qf r H' → K (tput n T o.dst r) H'
    | none => False
  | op => match nilTest E T op with
    | some (b, pt, pf) => (pt → K (tput n T o.dst (.d (.bool b))) H) ∧ (pf → K (tput n T o.dst (.d (.bool !b))) H)
    | none => match evop E T H H.length op with
      | some (p, v, ch) => p ∧ K (tput n T o.dst v) (ch.on H H.length)
      | none => False

def guardOf (all : List Oper) (j : Nat) : Option Nat :=
  match all[j]? with
  | some o => o.dst
  | none => none

def aops (P : Program) (E : Env) (n : Nat) (all : List Oper) : List Oper → Tmps → Heap → (Tmps → Heap → Prop) → Prop
  | [], T, H, Q => Q T H
  | o :: rest, T, H, Q => match o.guard with
    | none => astep P E n o T H fun T' H' => aops P E n all rest T' H' Q
    | some (j, want) => match guardOf all j with
      | some t => match tget T t with
        | .d (.bool b) => if b = want then astep P E n o ((t, .d (.bool want)) :: T) H (fun T' H' => aops P E n all rest T' H' Q)
          else aops P E n all rest (tput n ((t, .d (.bool !want)) :: T) o.dst (.d (.tuple []))) H Q
        | .d (.tuple []) => aops P E n all rest (tput n T o.dst (.d (.tuple []))) H Q
        | _ => False
      | none => False

def Weak (m : Nat) (T : Tmps) (H : Heap) (T' : Tmps) (H' : Heap) : Prop :=
  ∀ (C : Ctx) (φ : Nat → Option Loc) (S : Nat → Prop) (w : World) (a : Act), HRel C φ S H w → TRel φ S H w T a → ∃ φ' S', HRel C φ' S' H' w ∧ TRel φ' S' H' w T' a ∧ StepM m φ S H w φ' S' H' w

def aloop (m : Nat) (F : Tmps → Heap → (Ex → Tmps → Heap → Prop) → Prop) (Q : Ex → Tmps → Heap → Prop) : Nat → Tmps → Heap → Prop
  | 0, _, _ => False
  | k + 1, T, H => F T H fun e T' H' => match e with
    | .normal => ∃ T'' H'', Weak m T' H' T'' H'' ∧ aloop m F Q k T'' H''
    | e => Q e T' H'

def told (c : Operand) (b : Bool) (T : Tmps) : Tmps :=
  match c with
  | .tmp t => (t, .d (.bool b)) :: T
  | _ => T

structure PE where
  B : List Nat
  bar : Bool
  ms : List Nat
  mi : List Nat
  lag : Bool := false

def depsOf (o : Oper) : List Nat := (o.after.toList.filter (Region.binds .any)).map (·.on)

def planB (plan : List PE) (i : Nat) : List Nat :=
  match plan[i]? with
  | some e => e.B
  | none => []

def planLag (plan : List PE) (i : Nat) : Bool :=
  match plan[i]? with
  | some e => e.lag
  | none => false

def pureOp (o : Oper) : Bool :=
  o.guard.isNone && match o.op with
  | .move _ | .assign _ | .pick .. | .unOp .. | .binOp .. | .extract .. | .convert .. | .slice .. | .load .. | .fieldAddr .. | .indexAddr .. | .build .. => true
  | _ => false

def dstOk (o ok : Oper) (ms : List Nat) : Bool :=
  match ok.dst with
  | some t => ms.contains t && o.dst != some t
  | none => true

def planOk (all : List Oper) (plan : List PE) : Bool :=
  plan.length == all.length &&
  (List.range all.length).all fun i =>
    match all[i]?, plan[i]? with
    | some o, some e =>
      (depsOf o).all (fun d => decide (d < i)) &&
      e.B.all (fun j => (depsOf o).any fun d => d == j || (planB plan d).contains j) &&
      (!e.lag || (pureOp o && !e.bar && (match o.dst with | some t => e.ms.contains t | none => true) &&
        (List.range all.length).all fun k => match all[k]? with
          | some ok => k == i || e.B.contains k || dstOk o ok e.ms || ((planB plan k).contains i && !planLag plan k)
          | none => true)) &&
      (List.range all.length).all fun k =>
        match all[k]? with
        | some ok =>
          (k == i || e.B.contains k || (planB plan k).contains i ||
            (!e.bar && (decide (i < k) || e.mi.contains k) && dstOk o ok e.ms) ||
            (e.bar && decide (k < i) && planLag plan k && dstOk o ok e.ms))
        | none => true
    | _, _ => true

def DSpec (P : Program) (f : Nat) (vs : List V) (H : Heap) (nid : Nat) (v : V) (b : Blk) : Prop :=
  ∀ H', (∀ id, hget H id = .unborn ∨ hget H' id = hget H id) → hget H' nid = .unborn → RSpec P f vs H' v (hput H' nid b)

def dstep (P : Program) (E : Env) (o : Oper) (T : Tmps) (H : Heap) (nid : Nat) (K : V → Blk → Prop) : Prop :=
  match o.op with
  | .call { callee := .value fo, args, .. } => match calleeOf T fo with
    | some (f, gg) => (args.toList.all fun x => !(ev T x).isUndef) = true ∧ ∃ v b, DSpec P f (gg (args.toList.map (ev T))) H nid v b ∧ K v b
    | none => False
  | op => match evop E T H nid op with
    | some (p, v, .no) => p ∧ K v .dead
    | some (p, v, .new b) => p ∧ K v b
    | _ => False

def maskT (ms : List Nat) (T : Tmps) : Tmps := ms.map (fun t => (t, V.d .undef)) ++ T

def maskH (s L0 : Nat) : List Nat → Heap → Heap
  | [], H => H
  | k :: r, H => maskH s L0 r (if s ≤ k then hput H (L0 + (k - s)) .unborn else H)

def bstep (P : Program) (E : Env) (n : Nat) (o : Oper) (ms : List Nat) (T : Tmps) (H : Heap) (K : Tmps → Heap → Prop) : Prop :=
  match o.op with
  | .call { callee := .value fo, args, .. } => match calleeOf (maskT ms T) fo with
    | some (f, gg) => (args.toList.all fun x => !(ev (maskT ms T) x).isUndef) = true ∧ ∃ Qf, NSpec P f (gg (args.toList.map (ev (maskT ms T)))) H Qf ∧ ∀ r H', Qf r H' → K (tput n T o.dst r) H'
    | none => False
  | op => match evop E (maskT ms T) H H.length op with
    | some (p, v, ch) => p ∧ K (tput n T o.dst v) (ch.on H H.length)
    | none => False

def drun (P : Program) (E : Env) (n : Nat) (all : List Oper) (s L0 : Nat) : Nat → List Oper → List PE → Tmps → Heap → (Tmps → Heap → Prop) → Prop
  | _, [], _, T, H, Q => Q T H
  | _, _ :: _, [], _, _, _ => False
  | i, o :: rest, pe :: plan, T, H, Q =>
    if pe.bar = true then o.guard = none ∧ bstep P E n o pe.ms T H fun T' H' => drun P E n all (i + 1) H'.length (i + 1) rest plan T' H' Q
    else match o.guard with
      | none => dstep P E o (maskT pe.ms T) (if pe.lag = true then [] else maskH s L0 pe.mi H) (L0 + (i - s)) fun v b => drun P E n all s L0 (i + 1) rest plan (tput n T o.dst v) (hput H (L0 + (i - s)) b) Q
      | some (j, want) => match guardOf all j with
        | some t => match tget (maskT pe.ms T) t with
          | .d (.bool b) => if b = want then dstep P E o (maskT pe.ms ((t, .d (.bool want)) :: T)) (maskH s L0 pe.mi H) (L0 + (i - s)) fun v b => drun P E n all s L0 (i + 1) rest plan (tput n ((t, .d (.bool want)) :: T) o.dst v) (hput H (L0 + (i - s)) b) Q
            else drun P E n all s L0 (i + 1) rest plan (tput n ((t, .d (.bool !want)) :: T) o.dst (.d (.tuple []))) (hput H (L0 + (i - s)) .dead) Q
          | .d (.tuple []) => drun P E n all s L0 (i + 1) rest plan (tput n T o.dst (.d (.tuple []))) (hput H (L0 + (i - s)) .dead) Q
          | _ => False
        | none => False

def takeV (E : Env) (T : Tmps) (H : Heap) (o : Oper) : Option V :=
  match o.op with
  | .fieldAddr t x f => match E t, ev T x with
    | some ti, .ptr id i j => match structAt ti f with
      | some (off, sz) => if sz = 0 then none else if (hget H id).width.isSome then some (.ptr id i (j + off)) else none
      | none => none
    | _, _ => none
  | _ => none
def takesT (E : Env) (n : Nat) (H : Heap) (l : List Oper) : List Nat → Tmps → Option Tmps
  | [], T => some T
  | i :: r, T => match l[i]? with
    | some o => match takeV E T H o with
      | some v => takesT E n H l r (tput n T o.dst v)
      | none => none
    | none => none
def takeOk (all : Array Oper) : List Nat → Array Bool → Bool
  | [], _ => true
  | i :: r, listed => Region.free .any all listed i && (Region.ready .any all listed).contains i && (match all[i]? with | some o => o.guard.isNone | none => false) && takeOk all r (listed.setIfInBounds i true)
def permOp (D rl : List Nat) (o : Oper) : Oper := { o with after := ((o.after.toList.filter fun e => !D.contains e.on).map (fun e => { e with on := rl.getD e.on e.on })).toArray, guard := o.guard.map fun g => (rl.getD g.1 g.1, g.2) }
def permOps (D rl pl : List Nat) (l : List Oper) : List Oper := pl.map fun i => permOp D rl (l.getD i default)
def permOk (D rl pl : List Nat) (l : List Oper) : Bool := rl.length == l.length && D.length + pl.length == l.length && ((List.range l.length).all fun i => D.contains i || match rl[i]? with
  | some r => decide (r < pl.length) && pl[r]? == some i
  | none => false) && ((List.range pl.length).all fun r => match pl[r]? with
  | some p => decide (p < l.length) && !D.contains p && rl[p]? == some r
  | none => false) && (l.all fun o => match o.guard with
  | some (g, _) => !D.contains g
  | none => true) && (D.isEmpty || (Region.noSelect l.toArray && takeOk l.toArray D (Array.replicate l.length false)))
def PermOf (E : Env) (n : Nat) (H : Heap) (T : Tmps) (l : List Oper) (T' : Tmps) (l' : List Oper) : Prop := (T' = T ∧ l' = l) ∨ ∃ D rl pl, permOk D rl pl l = true ∧ takesT E n H l D T = some T' ∧ l' = permOps D rl pl l

def awp (P : Program) (E : Env) (n m : Nat) : Code → Tmps → Heap → (Ex → Tmps → Heap → Prop) → Prop
  | .skip, T, H, Q => Q .normal T H
  | .label _, T, H, Q => Q .normal T H
  | .region _ ops false, T, H, Q => aops P E n ops.toList ops.toList T H (Q .normal)
  | .region _ ops true, T, H, Q => ∃ T' H', Weak m T H T' H' ∧ ∃ T2 ops', PermOf E n H' T' ops.toList T2 ops' ∧ ∃ plan, planOk ops' plan = true ∧ drun P E n ops' 0 H'.length 0 ops' plan T2 H' (Q .normal)
  | .seq x y, T, H, Q => awp P E n m x T H fun e T' H' => match e with
    | .normal => awp P E n m y T' H' Q
    | e => Q e T' H'
  | .cond c x y, T, H, Q => match ev T c with
    | .d (.bool b) => if b = true then awp P E n m x (told c true T) H Q else awp P E n m y (told c false T) H Q
    | _ => False
  | .block id x, T, H, Q => awp P E n m x T H fun e T' H' => match e with
    | .exit i => if i = id then Q .normal T' H' else Q (.exit i) T' H'
    | e => Q e T' H'
  | .loop x, T, H, Q => ∃ T' H', Weak m T H T' H' ∧ ∃ k, aloop m (awp P E n m x) Q k T' H'
  | .exit id, T, H, Q => Q (.exit id) T H
  | .ret, T, H, Q => Q .ret T H
  | _, _, _, _ => False

section
variable {P : Program} {E : Env} {C : Ctx} {φ φ' : Nat → Option Loc} {S S' : Nat → Prop} {H H' : Heap} {w w' : World} {T : Tmps} {a : Act} {n m : Nat}

structure Stands (C : Ctx) (n : Nat) (T : Tmps) (H : Heap) (φ : Nat → Option Loc) (S : Nat → Prop) (a : Act) (w : World) : Prop where
  heap : HRel C φ S H w
  tmps : TRel φ S H w T a
  size : a.tmps.size = n
  defers : a.defers = []

def PostQ (C : Ctx) (n m : Nat) (φ : Nat → Option Loc) (S : Nat → Prop) (H : Heap) (w : World) (Q : Ex → Tmps → Heap → Prop) : Exit → Act → World → Prop := fun e a' w' =>
  ∃ e' T' H' φ' S', Q e' T' H' ∧ e = e'.of ∧ Stands C n T' H' φ' S' a' w' ∧ StepM m φ S H w φ' S' H' w' ∧ Kp C w w'

theorem PostQ.from {Q : Ex → Tmps → Heap → Prop} {e : Exit} {a' : Act} {w'' : World} (hs : StepM m φ S H w φ' S' H' w') (hk : Kp C w w') (h : PostQ C n m φ' S' H' w' Q e a' w'') : PostQ C n m φ S H w Q e a' w'' := by
  obtain ⟨e', T', H1, φ1, S1, q, he, hst, hs', hk'⟩ := h
  exact ⟨e', T', H1, φ1, S1, q, he, hst, hs.trans hs', hk.trans hk'⟩

def NextQ (C : Ctx) (n m : Nat) (φ : Nat → Option Loc) (S : Nat → Prop) (H : Heap) (w : World) (K : Tmps → Heap → Prop) : Act → World → Prop := fun a' w' =>
  ∃ T' H' φ' S', K T' H' ∧ Stands C n T' H' φ' S' a' w' ∧ StepM m φ S H w φ' S' H' w' ∧ Kp C w w'

theorem Stands.put {o : Oper} {v : V} {c : Value} (hst : Stands C n T H φ S a w) (hH : HRel C φ' S' H' w') (hs : Step φ S H w φ' S' H' w') (hv : RV φ' S' H' w' v c) : Stands C n (tput n T o.dst v) H' φ' S' (a.put o.dst c) w' := by
  refine ⟨hH, ?_, by rw [put_size]; exact hst.size, by cases hd : o.dst <;> simp [Act.put, hst.defers]⟩
  have := (hst.tmps.step hs).put hv o.dst
  rw [hst.size] at this
  exact this

theorem calleeOf_rel (hT : TRel φ S H w T a) {fo : Operand} {f : Nat} {gg : List V → List V} (h : calleeOf T fo = some (f, gg)) : ∃ fs cs : List Value, a.eval fo = .func (.func f) fs.toArray cs.toArray ∧ ∀ (as : List V) (cas : List Value), RVs φ S H w as cas → RVs φ S H w (gg as) (fs ++ (cas ++ cs)) := by
  have hr := ev_rel hT fo
  have key : ∀ (k : Nat) (vs : List V) (cs : List Value), RVs φ S H w vs cs → ∀ (as : List V) (cas : List Value), RVs φ S H w as cas → RVs φ S H w (withArgs k vs as) (cs.take k ++ (cas ++ cs.drop k)) := fun k vs cs h as cas has => by
    have h1 : RVs φ S H w (vs.take k) (cs.take k) := ⟨by simp [h.len], fun i v c hv hc => by
      rw [List.getElem?_take] at hv hc
      split at hv
      · rename_i hi; rw [if_pos hi] at hc; exact h.at_ i v c hv hc
      · cases hv⟩
    have h2 : RVs φ S H w (vs.drop k) (cs.drop k) := ⟨by simp [h.len], fun i v c hv hc => by
      rw [List.getElem?_drop] at hv hc; exact h.at_ _ v c hv hc⟩
    exact h1.append (has.append h2)
  unfold calleeOf at h
  split at h
  · rename_i g vs hx
    simp only [Option.some.injEq, Prod.mk.injEq] at h
    obtain ⟨rfl, rfl⟩ := h
    rw [hx] at hr
    generalize hc : a.eval fo = c at hr
    cases hr with | func _ _ cs hl hh => exact ⟨cs.take g.2, cs.drop g.2, rfl, key g.2 vs cs ⟨hl, hh⟩⟩
  · rename_i g ds hx
    simp only [Option.some.injEq, Prod.mk.injEq] at h
    obtain ⟨rfl, rfl⟩ := h
    rw [hx] at hr
    generalize hc : a.eval fo = c at hr
    cases hr with | d _ _ hr => cases hr with | func _ _ cs hl hh =>
      refine ⟨cs.take g.2, cs.drop g.2, rfl, key g.2 (ds.map V.d) cs ⟨by simpa using hl, fun i v c hv hc => ?_⟩⟩
      rw [List.getElem?_map] at hv
      cases hd : ds[i]? with
      | none => simp [hd] at hv
      | some d => simp [hd] at hv; subst hv; exact .d _ _ (hh i d c hd hc)
  · cases h

theorem evs_rel (hT : TRel φ S H w T a) : ∀ (xs : List Operand), RVs φ S H w (xs.map (ev T)) (xs.map a.eval)
  | [] => .nil
  | x :: r => .cons (ev_rel hT x) (evs_rel hT r)

theorem eq_nil_run (d : Nat) {t e : Nat} (A : Option Addr) (l cap : Nat) (h : P.underlying t = some (.slice e)) : (Op.equalIn (d + 1) t (.slice A l cap) (.slice none 0 0)).run P w = .ok A.isNone w := by
  cases A <;> simp [Op.equalIn, run_underlying h]

theorem sliceOf_inv (hE : EOk P E) {t : Nat} {ti : TI} (h : sliceOf E t = some ti) : ∃ e, P.underlying t = some (.slice e) := by
  unfold sliceOf at h
  split at h
  · rename_i ti' ht
    split at h
    · rename_i e hs
      obtain ⟨i, z, d, h1, h2, h3, h4, h5, h5', h6, h7, h8, h9⟩ := (hE _ _ ht).facts
      rw [hs] at h8
      exact ⟨e, by rw [h6]; exact congrArg some h8⟩
    · cases h
  · cases h

theorem nilTest_inv {o : Op} {b : Bool} {pt pf : Prop} (hE : EOk P E) (hT : TRel φ S H w T a) (h : nilTest E T o = some (b, pt, pf)) : ∃ (x : Operand) (t e : Nat), ∃ (A : Option Addr) (l cap : Nat),
    a.eval x = .slice A l cap ∧ ((∃ ty, o = .binOp .eql t x (.const (.slice none 0 0)) ty ∧ b = true) ∨ (∃ ty, o = .binOp .neq t x (.const (.slice none 0 0)) ty ∧ b = false)) ∧ P.underlying t = some (.slice e) ∧ (A = none → pt) ∧ (A ≠ none → pf) := by
  have key : ∀ {x : Operand} {t : Nat} {b' : Bool}, (match sliceOf E t, ev T x with
    | some _, .nils => some (b', True, False)
    | some _, .d (.vec els) => some (b', els = [], True)
    | _, _ => none) = some (b, pt, pf) → b' = b ∧ ∃ (e : Nat) (A : Option Addr) (l cap : Nat), a.eval x = .slice A l cap ∧ P.underlying t = some (.slice e) ∧ (A = none → pt) ∧ (A ≠ none → pf) := by
    intro x t b' h
    have hv := ev_rel hT x
    split at h
    · rename_i ti hs hx
      rw [hx] at hv
      obtain ⟨e, he⟩ := sliceOf_inv hE hs
      simp only [Option.some.injEq, Prod.mk.injEq] at h
      obtain ⟨rfl, rfl, rfl⟩ := h
      have : a.eval x = .slice none 0 0 := by
        generalize a.eval x = c at hv
        cases hv; rfl
      exact ⟨rfl, e, none, 0, 0, this, he, fun _ => trivial, fun h => absurd rfl h⟩
    · rename_i ti els hs hx
      rw [hx] at hv
      obtain ⟨e, he⟩ := sliceOf_inv hE hs
      simp only [Option.some.injEq, Prod.mk.injEq] at h
      obtain ⟨rfl, rfl, rfl⟩ := h
      obtain ⟨A, cap, B, off, sz, m, hc, r1, r2, r3, r4, r5⟩ := hv.vec_inv
      exact ⟨rfl, e, A, _, cap, hc, he, fun hA => Classical.byContradiction fun hn => (by have := r2 hn; rw [hA] at this; cases this), fun _ => trivial⟩
    · cases h
  unfold nilTest at h
  split at h
  · rename_i t x ty
    obtain ⟨rfl, e, A, l, cap, q1, q2, q3, q4⟩ := key h
    exact ⟨x, t, e, A, l, cap, q1, .inl ⟨ty, rfl, rfl⟩, q2, q3, q4⟩
  · rename_i t x ty
    obtain ⟨rfl, e, A, l, cap, q1, q2, q3, q4⟩ := key h
    exact ⟨x, t, e, A, l, cap, q1, .inr ⟨ty, rfl, rfl⟩, q2, q3, q4⟩
  · cases h

theorem astep_sound {o : Oper} {K : Tmps → Heap → Prop} {Q : Exit → Act → World → Prop} (hE : EOk P E)
    (hst : Stands C n T H φ S a w) (h : astep P E n o T H K) : o.wp P a w (NextQ C n m φ S H w K) Q := by
  have other : ∀ {v : V} {ch : Ch} {p : Prop}, evop E T H H.length o.op = some (p, v, ch) → p → K (tput n T o.dst v) (ch.on H H.length) → o.wp P a w (NextQ C n m φ S H w K) Q := fun {v ch p} he hp hk => by
    have hu : hget H H.length = .unborn := by
      clear he hk hst h
      induction H with
      | nil => rfl
      | cons b H ih => exact ih
    obtain ⟨c, w', φ', hg, hv, hH, hs, hkp⟩ := evop_sound hE he hp hu hst.heap hst.tmps
    have hn : NextQ C n m φ S H w K (a.put o.dst c) w' := ⟨_, _, φ', S, hk, hst.put hH hs hv, hs.toM hkp.size, hkp⟩
    unfold Oper.wp
    rcases hg with hg | ⟨hg, rfl⟩ <;> rw [hg] <;> exact hn
  unfold astep at h
  split at h
  · rename_i fo args tys hop
    split at h
    · rename_i f gg hc
      obtain ⟨Qf, hr, hk⟩ := h
      obtain ⟨fs, cs, e1, e2⟩ := calleeOf_rel hst.tmps hc
      have hargs := evs_rel hst.tmps args.toList
      have hcall := hr.2 C φ S w (fs ++ (args.toList.map a.eval ++ cs)) hst.heap (e2 _ _ hargs)
      have hrun : (execOp a.eval o).run P w = .ok (.enter f (fs ++ (args.toList.map a.eval ++ cs)).toArray) w := by
        have harr : fs.toArray ++ args.map a.eval ++ cs.toArray = (fs ++ (args.toList.map a.eval ++ cs)).toArray := by apply Array.ext'; simp
        have hcf := hr.1 (fs ++ (args.toList.map a.eval ++ cs)).toArray w
        simp [execOp, hop, resolve, e1, Deferred.ofValue, invoke, harr, -List.append_toArray, hcf]
      unfold Oper.wp
      rw [hrun]
      refine hcall.mono ?_
      rintro e w' ⟨r, H', hq, c, φ', S', rfl, h1, h2, h3, h4⟩
      exact ⟨_, _, φ', S', hk _ _ hq, hst.put h2 h3 h1, h3.toM h4.size, h4⟩
    · exact h.elim
  · split at h
    · rename_i b pt pf hn
      obtain ⟨x, t, e, A, l, cap, e1, e2, e3, e4, e5⟩ := nilTest_inv hE hst.tmps hn
      have hrun : (execOp a.eval o).run P w = .ok (.value (.bool (A.isNone == b))) w := by
        have hEq : (Op.equal t (.slice A l cap) (.slice none 0 0)).run P w = .ok A.isNone w := eq_nil_run 9999 A l cap e3
        have ec : a.eval (.const (.slice none 0 0)) = .slice none 0 0 := rfl
        rcases e2 with ⟨ty, e2, rfl⟩ | ⟨ty, e2, rfl⟩
        · cases A <;> simp [execOp, e2, e1, ec, eqGuard, binOp, hEq]
        · cases A <;> simp [execOp, e2, e1, ec, eqGuard, binOp, hEq]
      unfold Oper.wp
      rw [hrun]
      cases A with
      | none =>
        have : (((none : Option Addr)).isNone == b) = b := by cases b <;> rfl
        rw [this]
        exact ⟨_, _, φ, S, h.1 (e4 rfl), hst.put hst.heap .refl (.d _ _ (.bool _)), .refl, .refl⟩
      | some A =>
        have : (((some A : Option Addr)).isNone == b) = !b := by cases b <;> rfl
        rw [this]
        exact ⟨_, _, φ, S, h.2 (e5 (by simp)), hst.put hst.heap .refl (.d _ _ (.bool _)), .refl, .refl⟩
    · split at h
      · rename_i p v ch he
        exact other he h.1 h.2
      · exact h.elim

theorem yielded_of {all : Array Oper} {j t : Nat} {b : Bool} (hg : guardOf all.toList j = some t) (hT : TRel φ S H w T a) (ht : tget T t = .d (.bool b)) : yielded all a.tmps j = some b := by
  unfold guardOf at hg
  split at hg
  · rename_i o ho
    have ho' : all[j]? = some o := by simpa using ho
    have hv := hT t
    rw [ht] at hv
    have e := hv.bool_inv
    have hlt : t < a.tmps.size := by
      rcases Nat.lt_or_ge t a.tmps.size with h | h
      · exact h
      · simp [Nat.not_lt.2 h, undef] at e
    simp [hlt] at e
    simp [yielded, ho', hg, hlt, e]
  · cases hg

theorem tuple0_inv {c : Value} (h : RV φ S H w (.d (.tuple [])) c) : c = undef := by
  cases h with
  | d _ _ h =>
    cases h with
    | tuple _ cs hl _ =>
      have : cs = [] := List.length_eq_zero_iff.1 (by simpa using hl.symm)
      subst this; rfl

theorem yielded_no {all : Array Oper} {j t : Nat} (hg : guardOf all.toList j = some t) (hc : a.tmps.getD t undef = undef) : yielded all a.tmps j = none := by
  unfold guardOf at hg
  split at hg
  · rename_i o ho
    have ho' : all[j]? = some o := by simpa using ho
    rcases Nat.lt_or_ge t a.tmps.size with hlt | hlt
    · simp [hlt] at hc
      simp [yielded, ho', hg, hlt, hc, undef]
    · simp [yielded, ho', hg, Nat.not_lt.2 hlt]
  · cases hg

theorem TRel.told (hT : TRel φ S H w T a) {t : Nat} {v : V} (h : RV φ S H w v (a.tmps.getD t undef)) : TRel φ S H w ((t, v) :: T) a := fun s => by
  simp only [tget]
  split
  · rename_i e; subst e; exact h
  · exact hT s

theorem Stands.skip (hst : Stands C n T H φ S a w) (dst : Option Nat) : Stands C n (tput n T dst (.d (.tuple []))) H φ S (a.put dst undef) w := by
  refine ⟨hst.heap, ?_, by rw [put_size]; exact hst.size, by cases dst <;> simp [Act.put, hst.defers]⟩
  have := hst.tmps.put (v := .d (.tuple [])) (c := undef) (.d _ _ (.tuple [] [] rfl (fun i d c h => by simp at h))) dst
  rw [hst.size] at this
  exact this

theorem aops_sound (hE : EOk P E) {all : Array Oper} {Q : Tmps → Heap → Prop} {Q' : Exit → Act → World → Prop} : ∀ (rest : List Oper) (k : Nat) {T : Tmps} {H : Heap} {φ : Nat → Option Loc} {S : Nat → Prop} {a : Act} {w : World}, (∀ i, rest[i]? = all.toList[k + i]?) → k + rest.length = all.size →
    Stands C n T H φ S a w → aops P E n all.toList rest T H Q → (∀ a' w', NextQ C n m φ S H w Q a' w' → Q' .normal a' w') → wpOps P all Q' ((List.range rest.length).map (k + ·)) a w
  | [], k, T, H, φ, S, a, w, _, _, hst, h, hQ => hQ _ _ ⟨T, H, φ, S, h, hst, .refl, .refl⟩
  | o :: rest, k, T, H, φ, S, a, w, hr, hl, hst, h, hQ => by
    have ho : all[k]? = some o := by have := hr 0; simpa using this.symm
    have hrest : ∀ i, rest[i]? = all.toList[k + 1 + i]? := fun i => by have := hr (i + 1); rw [show k + (i + 1) = k + 1 + i by omega] at this; simpa using this
    have hlist : (List.range (o :: rest).length).map (k + ·) = k :: (List.range rest.length).map (k + 1 + ·) := by
      rw [List.length_cons, List.range_succ_eq_map]
      simp only [List.map_cons, List.map_map, Nat.add_zero]
      congr 1
      apply List.map_congr_left
      intro i _
      simp; omega
    rw [hlist]
    simp only [wpOps, ho]
    have step : ∀ {T : Tmps}, Stands C n T H φ S a w → astep P E n o T H (fun T' H' => aops P E n all.toList rest T' H' Q) → o.wp P a w (wpOps P all Q' ((List.range rest.length).map (k + 1 + ·))) Q' := fun {T} hst h => by
      refine Oper.wp_mono ?_ (astep_sound (m := m) (Q := Q') hE hst h)
      rintro a' w' ⟨T', H', φ', S', h1, h2, h3, h4⟩
      exact aops_sound hE rest (k + 1) hrest (by simp at hl; omega) h2 h1 (fun a'' w'' ⟨T2, H2, φ2, S2, g1, g2, g3, g4⟩ => hQ _ _ ⟨T2, H2, φ2, S2, g1, g2, h3.trans g3, h4.trans g4⟩)
    simp only [aops] at h
    split at h
    · rename_i hg
      have hw : Region.wanted o (yielded all a.tmps) = true := by simp [Region.wanted, hg]
      rw [if_pos hw]
      exact .inl (step hst h)
    · rename_i j want hg
      split at h
      · rename_i t ht
        split at h
        · rename_i b hb
          have hy := yielded_of ht hst.tmps hb
          have hv := hst.tmps t
          rw [hb] at hv
          split at h
          · rename_i hbw
            subst hbw
            have hw : Region.wanted o (yielded all a.tmps) = true := by simp [Region.wanted, hg, hy]
            rw [if_pos hw]
            exact .inl (step ⟨hst.heap, hst.tmps.told hv, hst.size, hst.defers⟩ h)
          · rename_i hbw
            have hw : ¬ Region.wanted o (yielded all a.tmps) = true := by simp [Region.wanted, hg, hy]; exact hbw
            rw [if_neg hw]
            have hbn : b = !want := by cases b <;> cases want <;> simp_all
            subst hbn
            exact aops_sound hE rest (k + 1) hrest (by simp at hl; omega) (Stands.skip ⟨hst.heap, hst.tmps.told hv, hst.size, hst.defers⟩ o.dst) h hQ
        · rename_i hb
          have hv := hst.tmps t
          rw [hb] at hv
          have hy := yielded_no ht (tuple0_inv hv)
          have hw : ¬ Region.wanted o (yielded all a.tmps) = true := by simp [Region.wanted, hg, hy]
          rw [if_neg hw]
          exact aops_sound hE rest (k + 1) hrest (by simp at hl; omega) (Stands.skip hst o.dst) h hQ
        · exact h.elim
      · exact h.elim

end
end Go.Proofs.Ytaejlmengfahnaa.AM
