/- The machine's steps as equations for simp; calls; loops. -/
import Derived.Test.YthpapgbpmkgfeaaAm20
set_option linter.all false
namespace Go.Proofs.Ythpapgbpmkgfeaa.AM
open Go Go.RowKit

/-- A call. -/
def acall (P : Program) (n : Nat) (f : Nat) (vs : List V) (dst : Option Nat) (T : Tmps) (H : Heap) (K : Tmps → Heap → Prop) : Prop :=
  ∃ r H', RSpec P f vs H r H' ∧ K (tput n T dst r) H'

/-- A call in a region that draws its order. -/
def dcall (P : Program) (f : Nat) (vs : List V) (H : Heap) (nid : Nat) (K : V → Blk → Prop) : Prop :=
  ∃ v b, DSpec P f vs H nid v b ∧ K v b

def wloop (P : Program) (E : Env) (n m : Nat) (x : Code) (T : Tmps) (H : Heap) (Q : Ex → Tmps → Heap → Prop) : Prop := ∃ T' H', Weak m T H T' H' ∧ ∃ k, aloop m (awp P E n m x) Q k T' H'

def wdraw (P : Program) (E : Env) (n : Nat) (ops : List Oper) (T : Tmps) (H : Heap) (Q : Tmps → Heap → Prop) : Prop :=
  ∃ plan, planOk ops plan = true ∧ drun P E n ops 0 H.length 0 ops plan T H Q

def afin (E : Env) (rs : List ResultVar) (r : D) (T : Tmps) (H : Heap) : Prop := ∃ v, resOf E T H rs = some v ∧ xport H 12 v = some r

def evK (r : Res) (n : Nat) (T : Tmps) (dst : Option Nat) (H : Heap) (K : Tmps → Heap → Prop) : Prop :=
  match r with
  | some (p, v, ch) => p ∧ K (tput n T dst v) (ch.on H H.length)
  | none => False

def nilK (q : Option (Bool × Prop × Prop)) (n : Nat) (T : Tmps) (dst : Option Nat) (H : Heap) (K : Tmps → Heap → Prop) (r : Res) : Prop :=
  match q with
  | some (b, pt, pf) => (pt → K (tput n T dst (.d (.bool b))) H) ∧ (pf → K (tput n T dst (.d (.bool !b))) H)
  | none => match r with
    | some (p, v, ch) => p ∧ K (tput n T dst v) (ch.on H H.length)
    | none => False

def devK (r : Res) (K : V → Blk → Prop) : Prop :=
  match r with
  | some (p, v, .no) => p ∧ K v .dead
  | some (p, v, .new b) => p ∧ K v b
  | _ => False

section
variable {P : Program} {E : Env} {n m : Nat} {H : Heap} {T : Tmps} {p : Nat × V} {Q : Ex → Tmps → Heap → Prop} {QT K : Tmps → Heap → Prop} {DK : V → Blk → Prop}

theorem z2p : awp P E n m .skip T H Q = Q .normal T H := rfl
theorem z2q {l} : awp P E n m (.label l) T H Q = Q .normal T H := rfl
theorem z2r {i} : awp P E n m (.exit i) T H Q = Q (.exit i) T H := rfl
theorem z2s : awp P E n m .ret T H Q = Q .ret T H := rfl
def kseq (P : Program) (E : Env) (n m : Nat) (y : Code) (Q : Ex → Tmps → Heap → Prop) : Ex → Tmps → Heap → Prop := fun e T' H' => match e with
    | .normal => awp P E n m y T' H' Q
    | e => Q e T' H'
def kblock (i : Nat) (Q : Ex → Tmps → Heap → Prop) : Ex → Tmps → Heap → Prop := fun e T' H' => match e with
    | .exit j => if j = i then Q .normal T' H' else Q (.exit j) T' H'
    | e => Q e T' H'
theorem z2t {x y} : awp P E n m (.seq x y) T H Q = awp P E n m x T H (kseq P E n m y Q) := rfl
theorem z2u {y} : kseq P E n m y Q .normal T H = awp P E n m y T H Q := rfl
theorem z2v {y i} : kseq P E n m y Q (.exit i) T H = Q (.exit i) T H := rfl
theorem z2w {y} : kseq P E n m y Q .ret T H = Q .ret T H := rfl
theorem z2x {i} : kblock i Q .normal T H = Q .normal T H := rfl
theorem z2y {i j} : kblock i Q (.exit j) T H = if j = i then Q .normal T H else Q (.exit j) T H := rfl
theorem z2z {i} : kblock i Q .ret T H = Q .ret T H := rfl
theorem z30 {i x} : awp P E n m (.block i x) T H Q = awp P E n m x T H (kblock i Q) := rfl
theorem z31 {i ops} : awp P E n m (.region i ops false) T H Q = aops P E n ops.toList ops.toList T H (Q .normal) := rfl
theorem z32 {i ops} : awp P E n m (.region i ops true) T H Q = wdraw P E n ops.toList T H (Q .normal) := rfl
theorem z33 {c x y} : awp P E n m (.cond c x y) (p :: T) H Q = (match ev (p :: T) c with
    | .d (.bool b) => if b = true then awp P E n m x (told c true (p :: T)) H Q else awp P E n m y (told c false (p :: T)) H Q
    | _ => False) := rfl
theorem z34 {x} : awp P E n m (.loop x) T H Q = wloop P E n m x T H Q := rfl

theorem z00 {all} : aops P E n all [] (p :: T) H QT = QT (p :: T) H := rfl
theorem z01 {all} : aops P E n all [] [] H QT = QT [] H := rfl
theorem z02 {all dst ty pos after rest x} : aops P E n all ({ dst := dst, op := .move x, type := ty, pos := pos, after := after, guard := none } :: rest) (p :: T) H QT =
  evK (evop E (p :: T) H H.length (.move x)) n (p :: T) dst H (fun T' H' => aops P E n all rest T' H' QT) := rfl
theorem z03 {all dst ty pos after rest x} : aops P E n all ({ dst := dst, op := .move x, type := ty, pos := pos, after := after, guard := none } :: rest) [] H QT =
  evK (evop E [] H H.length (.move x)) n [] dst H (fun T' H' => aops P E n all rest T' H' QT) := rfl
theorem z04 {dst ty pos after g x} : astep P E n { dst := dst, op := .move x, type := ty, pos := pos, after := after, guard := g } (p :: T) H K = evK (evop E (p :: T) H H.length (.move x)) n (p :: T) dst H K := rfl
theorem z05 {dst ty pos after g nid x} : dstep P E { dst := dst, op := .move x, type := ty, pos := pos, after := after, guard := g } (p :: T) H nid DK = devK (evop E (p :: T) H nid (.move x)) DK := rfl
theorem z06 {all dst ty pos after rest x} : aops P E n all ({ dst := dst, op := .assign x, type := ty, pos := pos, after := after, guard := none } :: rest) (p :: T) H QT =
  evK (evop E (p :: T) H H.length (.assign x)) n (p :: T) dst H (fun T' H' => aops P E n all rest T' H' QT) := rfl
theorem z07 {all dst ty pos after rest x} : aops P E n all ({ dst := dst, op := .assign x, type := ty, pos := pos, after := after, guard := none } :: rest) [] H QT =
  evK (evop E [] H H.length (.assign x)) n [] dst H (fun T' H' => aops P E n all rest T' H' QT) := rfl
theorem z08 {dst ty pos after g x} : astep P E n { dst := dst, op := .assign x, type := ty, pos := pos, after := after, guard := g } (p :: T) H K = evK (evop E (p :: T) H H.length (.assign x)) n (p :: T) dst H K := rfl
theorem z09 {dst ty pos after g nid x} : dstep P E { dst := dst, op := .assign x, type := ty, pos := pos, after := after, guard := g } (p :: T) H nid DK = devK (evop E (p :: T) H nid (.assign x)) DK := rfl
theorem z0a {all dst ty pos after rest c x y} : aops P E n all ({ dst := dst, op := .pick c x y, type := ty, pos := pos, after := after, guard := none } :: rest) (p :: T) H QT =
  evK (evop E (p :: T) H H.length (.pick c x y)) n (p :: T) dst H (fun T' H' => aops P E n all rest T' H' QT) := rfl
theorem z0b {all dst ty pos after rest c x y} : aops P E n all ({ dst := dst, op := .pick c x y, type := ty, pos := pos, after := after, guard := none } :: rest) [] H QT =
  evK (evop E [] H H.length (.pick c x y)) n [] dst H (fun T' H' => aops P E n all rest T' H' QT) := rfl
theorem z0c {dst ty pos after g c x y} : astep P E n { dst := dst, op := .pick c x y, type := ty, pos := pos, after := after, guard := g } (p :: T) H K = evK (evop E (p :: T) H H.length (.pick c x y)) n (p :: T) dst H K := rfl
theorem z0d {dst ty pos after g nid c x y} : dstep P E { dst := dst, op := .pick c x y, type := ty, pos := pos, after := after, guard := g } (p :: T) H nid DK = devK (evop E (p :: T) H nid (.pick c x y)) DK := rfl
theorem z0e {all dst ty pos after rest u t x} : aops P E n all ({ dst := dst, op := .unOp u t x, type := ty, pos := pos, after := after, guard := none } :: rest) (p :: T) H QT =
  evK (evop E (p :: T) H H.length (.unOp u t x)) n (p :: T) dst H (fun T' H' => aops P E n all rest T' H' QT) := rfl
theorem z0f {all dst ty pos after rest u t x} : aops P E n all ({ dst := dst, op := .unOp u t x, type := ty, pos := pos, after := after, guard := none } :: rest) [] H QT =
  evK (evop E [] H H.length (.unOp u t x)) n [] dst H (fun T' H' => aops P E n all rest T' H' QT) := rfl
theorem z0g {dst ty pos after g u t x} : astep P E n { dst := dst, op := .unOp u t x, type := ty, pos := pos, after := after, guard := g } (p :: T) H K = evK (evop E (p :: T) H H.length (.unOp u t x)) n (p :: T) dst H K := rfl
theorem z0h {dst ty pos after g nid u t x} : dstep P E { dst := dst, op := .unOp u t x, type := ty, pos := pos, after := after, guard := g } (p :: T) H nid DK = devK (evop E (p :: T) H nid (.unOp u t x)) DK := rfl
theorem z0i {all dst ty pos after rest b t x y t'} : aops P E n all ({ dst := dst, op := .binOp b t x y t', type := ty, pos := pos, after := after, guard := none } :: rest) (p :: T) H QT =
  nilK (nilTest E (p :: T) (.binOp b t x y t')) n (p :: T) dst H (fun T' H' => aops P E n all rest T' H' QT) (evop E (p :: T) H H.length (.binOp b t x y t')) := rfl
theorem z0j {all dst ty pos after rest b t x y t'} : aops P E n all ({ dst := dst, op := .binOp b t x y t', type := ty, pos := pos, after := after, guard := none } :: rest) [] H QT =
  nilK (nilTest E [] (.binOp b t x y t')) n [] dst H (fun T' H' => aops P E n all rest T' H' QT) (evop E [] H H.length (.binOp b t x y t')) := rfl
theorem z0k {dst ty pos after g b t x y t'} : astep P E n { dst := dst, op := .binOp b t x y t', type := ty, pos := pos, after := after, guard := g } (p :: T) H K = nilK (nilTest E (p :: T) (.binOp b t x y t')) n (p :: T) dst H K (evop E (p :: T) H H.length (.binOp b t x y t')) := rfl
theorem z0l {dst ty pos after g nid b t x y t'} : dstep P E { dst := dst, op := .binOp b t x y t', type := ty, pos := pos, after := after, guard := g } (p :: T) H nid DK = devK (evop E (p :: T) H nid (.binOp b t x y t')) DK := rfl
theorem z0m {all dst ty pos after rest x i} : aops P E n all ({ dst := dst, op := .extract x i, type := ty, pos := pos, after := after, guard := none } :: rest) (p :: T) H QT =
  evK (evop E (p :: T) H H.length (.extract x i)) n (p :: T) dst H (fun T' H' => aops P E n all rest T' H' QT) := rfl
theorem z0n {all dst ty pos after rest x i} : aops P E n all ({ dst := dst, op := .extract x i, type := ty, pos := pos, after := after, guard := none } :: rest) [] H QT =
  evK (evop E [] H H.length (.extract x i)) n [] dst H (fun T' H' => aops P E n all rest T' H' QT) := rfl
theorem z0o {dst ty pos after g x i} : astep P E n { dst := dst, op := .extract x i, type := ty, pos := pos, after := after, guard := g } (p :: T) H K = evK (evop E (p :: T) H H.length (.extract x i)) n (p :: T) dst H K := rfl
theorem z0p {dst ty pos after g nid x i} : dstep P E { dst := dst, op := .extract x i, type := ty, pos := pos, after := after, guard := g } (p :: T) H nid DK = devK (evop E (p :: T) H nid (.extract x i)) DK := rfl
theorem z0q {all dst ty pos after rest t} : aops P E n all ({ dst := dst, op := .alloc t, type := ty, pos := pos, after := after, guard := none } :: rest) (p :: T) H QT =
  evK (evop E (p :: T) H H.length (.alloc t)) n (p :: T) dst H (fun T' H' => aops P E n all rest T' H' QT) := rfl
theorem z0r {all dst ty pos after rest t} : aops P E n all ({ dst := dst, op := .alloc t, type := ty, pos := pos, after := after, guard := none } :: rest) [] H QT =
  evK (evop E [] H H.length (.alloc t)) n [] dst H (fun T' H' => aops P E n all rest T' H' QT) := rfl
theorem z0s {dst ty pos after g t} : astep P E n { dst := dst, op := .alloc t, type := ty, pos := pos, after := after, guard := g } (p :: T) H K = evK (evop E (p :: T) H H.length (.alloc t)) n (p :: T) dst H K := rfl
theorem z0t {dst ty pos after g nid t} : dstep P E { dst := dst, op := .alloc t, type := ty, pos := pos, after := after, guard := g } (p :: T) H nid DK = devK (evop E (p :: T) H nid (.alloc t)) DK := rfl
theorem z0u {all dst ty pos after rest t x} : aops P E n all ({ dst := dst, op := .box t x, type := ty, pos := pos, after := after, guard := none } :: rest) (p :: T) H QT =
  evK (evop E (p :: T) H H.length (.box t x)) n (p :: T) dst H (fun T' H' => aops P E n all rest T' H' QT) := rfl
theorem z0v {all dst ty pos after rest t x} : aops P E n all ({ dst := dst, op := .box t x, type := ty, pos := pos, after := after, guard := none } :: rest) [] H QT =
  evK (evop E [] H H.length (.box t x)) n [] dst H (fun T' H' => aops P E n all rest T' H' QT) := rfl
theorem z0w {dst ty pos after g t x} : astep P E n { dst := dst, op := .box t x, type := ty, pos := pos, after := after, guard := g } (p :: T) H K = evK (evop E (p :: T) H H.length (.box t x)) n (p :: T) dst H K := rfl
theorem z0x {dst ty pos after g nid t x} : dstep P E { dst := dst, op := .box t x, type := ty, pos := pos, after := after, guard := g } (p :: T) H nid DK = devK (evop E (p :: T) H nid (.box t x)) DK := rfl
theorem z0y {all dst ty pos after rest t x} : aops P E n all ({ dst := dst, op := .load t x, type := ty, pos := pos, after := after, guard := none } :: rest) (p :: T) H QT =
  evK (evop E (p :: T) H H.length (.load t x)) n (p :: T) dst H (fun T' H' => aops P E n all rest T' H' QT) := rfl
theorem z0z {all dst ty pos after rest t x} : aops P E n all ({ dst := dst, op := .load t x, type := ty, pos := pos, after := after, guard := none } :: rest) [] H QT =
  evK (evop E [] H H.length (.load t x)) n [] dst H (fun T' H' => aops P E n all rest T' H' QT) := rfl
theorem z10 {dst ty pos after g t x} : astep P E n { dst := dst, op := .load t x, type := ty, pos := pos, after := after, guard := g } (p :: T) H K = evK (evop E (p :: T) H H.length (.load t x)) n (p :: T) dst H K := rfl
theorem z11 {dst ty pos after g nid t x} : dstep P E { dst := dst, op := .load t x, type := ty, pos := pos, after := after, guard := g } (p :: T) H nid DK = devK (evop E (p :: T) H nid (.load t x)) DK := rfl
theorem z12 {all dst ty pos after rest t x y} : aops P E n all ({ dst := dst, op := .store t x y, type := ty, pos := pos, after := after, guard := none } :: rest) (p :: T) H QT =
  evK (evop E (p :: T) H H.length (.store t x y)) n (p :: T) dst H (fun T' H' => aops P E n all rest T' H' QT) := rfl
theorem z13 {all dst ty pos after rest t x y} : aops P E n all ({ dst := dst, op := .store t x y, type := ty, pos := pos, after := after, guard := none } :: rest) [] H QT =
  evK (evop E [] H H.length (.store t x y)) n [] dst H (fun T' H' => aops P E n all rest T' H' QT) := rfl
theorem z14 {dst ty pos after g t x y} : astep P E n { dst := dst, op := .store t x y, type := ty, pos := pos, after := after, guard := g } (p :: T) H K = evK (evop E (p :: T) H H.length (.store t x y)) n (p :: T) dst H K := rfl
theorem z15 {dst ty pos after g nid t x y} : dstep P E { dst := dst, op := .store t x y, type := ty, pos := pos, after := after, guard := g } (p :: T) H nid DK = devK (evop E (p :: T) H nid (.store t x y)) DK := rfl
theorem z16 {all dst ty pos after rest t x f} : aops P E n all ({ dst := dst, op := .fieldAddr t x f, type := ty, pos := pos, after := after, guard := none } :: rest) (p :: T) H QT =
  evK (evop E (p :: T) H H.length (.fieldAddr t x f)) n (p :: T) dst H (fun T' H' => aops P E n all rest T' H' QT) := rfl
theorem z17 {all dst ty pos after rest t x f} : aops P E n all ({ dst := dst, op := .fieldAddr t x f, type := ty, pos := pos, after := after, guard := none } :: rest) [] H QT =
  evK (evop E [] H H.length (.fieldAddr t x f)) n [] dst H (fun T' H' => aops P E n all rest T' H' QT) := rfl
theorem z18 {dst ty pos after g t x f} : astep P E n { dst := dst, op := .fieldAddr t x f, type := ty, pos := pos, after := after, guard := g } (p :: T) H K = evK (evop E (p :: T) H H.length (.fieldAddr t x f)) n (p :: T) dst H K := rfl
theorem z19 {dst ty pos after g nid t x f} : dstep P E { dst := dst, op := .fieldAddr t x f, type := ty, pos := pos, after := after, guard := g } (p :: T) H nid DK = devK (evop E (p :: T) H nid (.fieldAddr t x f)) DK := rfl
theorem z1a {all dst ty pos after rest t x ix} : aops P E n all ({ dst := dst, op := .indexAddr t x ix, type := ty, pos := pos, after := after, guard := none } :: rest) (p :: T) H QT =
  evK (evop E (p :: T) H H.length (.indexAddr t x ix)) n (p :: T) dst H (fun T' H' => aops P E n all rest T' H' QT) := rfl
theorem z1b {all dst ty pos after rest t x ix} : aops P E n all ({ dst := dst, op := .indexAddr t x ix, type := ty, pos := pos, after := after, guard := none } :: rest) [] H QT =
  evK (evop E [] H H.length (.indexAddr t x ix)) n [] dst H (fun T' H' => aops P E n all rest T' H' QT) := rfl
theorem z1c {dst ty pos after g t x ix} : astep P E n { dst := dst, op := .indexAddr t x ix, type := ty, pos := pos, after := after, guard := g } (p :: T) H K = evK (evop E (p :: T) H H.length (.indexAddr t x ix)) n (p :: T) dst H K := rfl
theorem z1d {dst ty pos after g nid t x ix} : dstep P E { dst := dst, op := .indexAddr t x ix, type := ty, pos := pos, after := after, guard := g } (p :: T) H nid DK = devK (evop E (p :: T) H nid (.indexAddr t x ix)) DK := rfl
theorem z1e {all dst ty pos after rest t x lo hi mx} : aops P E n all ({ dst := dst, op := .slice t x lo hi mx, type := ty, pos := pos, after := after, guard := none } :: rest) (p :: T) H QT =
  evK (evop E (p :: T) H H.length (.slice t x lo hi mx)) n (p :: T) dst H (fun T' H' => aops P E n all rest T' H' QT) := rfl
theorem z1f {all dst ty pos after rest t x lo hi mx} : aops P E n all ({ dst := dst, op := .slice t x lo hi mx, type := ty, pos := pos, after := after, guard := none } :: rest) [] H QT =
  evK (evop E [] H H.length (.slice t x lo hi mx)) n [] dst H (fun T' H' => aops P E n all rest T' H' QT) := rfl
theorem z1g {dst ty pos after g t x lo hi mx} : astep P E n { dst := dst, op := .slice t x lo hi mx, type := ty, pos := pos, after := after, guard := g } (p :: T) H K = evK (evop E (p :: T) H H.length (.slice t x lo hi mx)) n (p :: T) dst H K := rfl
theorem z1h {dst ty pos after g nid t x lo hi mx} : dstep P E { dst := dst, op := .slice t x lo hi mx, type := ty, pos := pos, after := after, guard := g } (p :: T) H nid DK = devK (evop E (p :: T) H nid (.slice t x lo hi mx)) DK := rfl
theorem z1i {all dst ty pos after rest t k ps} : aops P E n all ({ dst := dst, op := .buildSlice t k ps, type := ty, pos := pos, after := after, guard := none } :: rest) (p :: T) H QT =
  evK (evop E (p :: T) H H.length (.buildSlice t k ps)) n (p :: T) dst H (fun T' H' => aops P E n all rest T' H' QT) := rfl
theorem z1j {all dst ty pos after rest t k ps} : aops P E n all ({ dst := dst, op := .buildSlice t k ps, type := ty, pos := pos, after := after, guard := none } :: rest) [] H QT =
  evK (evop E [] H H.length (.buildSlice t k ps)) n [] dst H (fun T' H' => aops P E n all rest T' H' QT) := rfl
theorem z1k {dst ty pos after g t k ps} : astep P E n { dst := dst, op := .buildSlice t k ps, type := ty, pos := pos, after := after, guard := g } (p :: T) H K = evK (evop E (p :: T) H H.length (.buildSlice t k ps)) n (p :: T) dst H K := rfl
theorem z1l {dst ty pos after g nid t k ps} : dstep P E { dst := dst, op := .buildSlice t k ps, type := ty, pos := pos, after := after, guard := g } (p :: T) H nid DK = devK (evop E (p :: T) H nid (.buildSlice t k ps)) DK := rfl
theorem z1m {all dst ty pos after rest t ps} : aops P E n all ({ dst := dst, op := .build t ps, type := ty, pos := pos, after := after, guard := none } :: rest) (p :: T) H QT =
  evK (evop E (p :: T) H H.length (.build t ps)) n (p :: T) dst H (fun T' H' => aops P E n all rest T' H' QT) := rfl
theorem z1n {all dst ty pos after rest t ps} : aops P E n all ({ dst := dst, op := .build t ps, type := ty, pos := pos, after := after, guard := none } :: rest) [] H QT =
  evK (evop E [] H H.length (.build t ps)) n [] dst H (fun T' H' => aops P E n all rest T' H' QT) := rfl
theorem z1o {dst ty pos after g t ps} : astep P E n { dst := dst, op := .build t ps, type := ty, pos := pos, after := after, guard := g } (p :: T) H K = evK (evop E (p :: T) H H.length (.build t ps)) n (p :: T) dst H K := rfl
theorem z1p {dst ty pos after g nid t ps} : dstep P E { dst := dst, op := .build t ps, type := ty, pos := pos, after := after, guard := g } (p :: T) H nid DK = devK (evop E (p :: T) H nid (.build t ps)) DK := rfl
theorem z1q {all dst ty pos after rest f a b} : aops P E n all ({ dst := dst, op := .makeFunc f a b, type := ty, pos := pos, after := after, guard := none } :: rest) (p :: T) H QT =
  evK (evop E (p :: T) H H.length (.makeFunc f a b)) n (p :: T) dst H (fun T' H' => aops P E n all rest T' H' QT) := rfl
theorem z1r {all dst ty pos after rest f a b} : aops P E n all ({ dst := dst, op := .makeFunc f a b, type := ty, pos := pos, after := after, guard := none } :: rest) [] H QT =
  evK (evop E [] H H.length (.makeFunc f a b)) n [] dst H (fun T' H' => aops P E n all rest T' H' QT) := rfl
theorem z1s {dst ty pos after g f a b} : astep P E n { dst := dst, op := .makeFunc f a b, type := ty, pos := pos, after := after, guard := g } (p :: T) H K = evK (evop E (p :: T) H H.length (.makeFunc f a b)) n (p :: T) dst H K := rfl
theorem z1t {dst ty pos after g nid f a b} : dstep P E { dst := dst, op := .makeFunc f a b, type := ty, pos := pos, after := after, guard := g } (p :: T) H nid DK = devK (evop E (p :: T) H nid (.makeFunc f a b)) DK := rfl
theorem z1u {all dst ty pos after rest x} : aops P E n all ({ dst := dst, op := .nilCheck x, type := ty, pos := pos, after := after, guard := none } :: rest) (p :: T) H QT =
  evK (evop E (p :: T) H H.length (.nilCheck x)) n (p :: T) dst H (fun T' H' => aops P E n all rest T' H' QT) := rfl
theorem z1v {all dst ty pos after rest x} : aops P E n all ({ dst := dst, op := .nilCheck x, type := ty, pos := pos, after := after, guard := none } :: rest) [] H QT =
  evK (evop E [] H H.length (.nilCheck x)) n [] dst H (fun T' H' => aops P E n all rest T' H' QT) := rfl
theorem z1w {dst ty pos after g x} : astep P E n { dst := dst, op := .nilCheck x, type := ty, pos := pos, after := after, guard := g } (p :: T) H K = evK (evop E (p :: T) H H.length (.nilCheck x)) n (p :: T) dst H K := rfl
theorem z1x {dst ty pos after g nid x} : dstep P E { dst := dst, op := .nilCheck x, type := ty, pos := pos, after := after, guard := g } (p :: T) H nid DK = devK (evop E (p :: T) H nid (.nilCheck x)) DK := rfl
theorem z1y {all dst ty pos after rest s t x} : aops P E n all ({ dst := dst, op := .convert s t x, type := ty, pos := pos, after := after, guard := none } :: rest) (p :: T) H QT =
  evK (evop E (p :: T) H H.length (.convert s t x)) n (p :: T) dst H (fun T' H' => aops P E n all rest T' H' QT) := rfl
theorem z1z {all dst ty pos after rest s t x} : aops P E n all ({ dst := dst, op := .convert s t x, type := ty, pos := pos, after := after, guard := none } :: rest) [] H QT =
  evK (evop E [] H H.length (.convert s t x)) n [] dst H (fun T' H' => aops P E n all rest T' H' QT) := rfl
theorem z20 {dst ty pos after g s t x} : astep P E n { dst := dst, op := .convert s t x, type := ty, pos := pos, after := after, guard := g } (p :: T) H K = evK (evop E (p :: T) H H.length (.convert s t x)) n (p :: T) dst H K := rfl
theorem z21 {dst ty pos after g nid s t x} : dstep P E { dst := dst, op := .convert s t x, type := ty, pos := pos, after := after, guard := g } (p :: T) H nid DK = devK (evop E (p :: T) H nid (.convert s t x)) DK := rfl
theorem z22 {all dst ty pos after rest b args ats} : aops P E n all ({ dst := dst, op := .call { callee := .builtin b, args := args, argTypes := ats }, type := ty, pos := pos, after := after, guard := none } :: rest) (p :: T) H QT =
  evK (evop E (p :: T) H H.length (.call { callee := .builtin b, args := args, argTypes := ats })) n (p :: T) dst H (fun T' H' => aops P E n all rest T' H' QT) := rfl
theorem z23 {all dst ty pos after rest b args ats} : aops P E n all ({ dst := dst, op := .call { callee := .builtin b, args := args, argTypes := ats }, type := ty, pos := pos, after := after, guard := none } :: rest) [] H QT =
  evK (evop E [] H H.length (.call { callee := .builtin b, args := args, argTypes := ats })) n [] dst H (fun T' H' => aops P E n all rest T' H' QT) := rfl
theorem z24 {dst ty pos after g b args ats} : astep P E n { dst := dst, op := .call { callee := .builtin b, args := args, argTypes := ats }, type := ty, pos := pos, after := after, guard := g } (p :: T) H K = evK (evop E (p :: T) H H.length (.call { callee := .builtin b, args := args, argTypes := ats })) n (p :: T) dst H K := rfl
theorem z25 {dst ty pos after g nid b args ats} : dstep P E { dst := dst, op := .call { callee := .builtin b, args := args, argTypes := ats }, type := ty, pos := pos, after := after, guard := g } (p :: T) H nid DK = devK (evop E (p :: T) H nid (.call { callee := .builtin b, args := args, argTypes := ats })) DK := rfl
theorem z26 {all dst ty pos after rest fo args ats} : aops P E n all ({ dst := dst, op := .call { callee := .value fo, args := args, argTypes := ats }, type := ty, pos := pos, after := after, guard := none } :: rest) (p :: T) H QT =
  (match calleeOf (p :: T) fo with
    | some (f, gg) => acall P n f (gg (args.toList.map (ev (p :: T)))) dst (p :: T) H (fun T' H' => aops P E n all rest T' H' QT)
    | none => False) := rfl
theorem z27 {all dst ty pos after rest fo args ats} : aops P E n all ({ dst := dst, op := .call { callee := .value fo, args := args, argTypes := ats }, type := ty, pos := pos, after := after, guard := none } :: rest) [] H QT =
  (match calleeOf [] fo with
    | some (f, gg) => acall P n f (gg (args.toList.map (ev []))) dst [] H (fun T' H' => aops P E n all rest T' H' QT)
    | none => False) := rfl
theorem z28 {dst ty pos after g fo args ats} : astep P E n { dst := dst, op := .call { callee := .value fo, args := args, argTypes := ats }, type := ty, pos := pos, after := after, guard := g } (p :: T) H K =
  (match calleeOf (p :: T) fo with
    | some (f, gg) => acall P n f (gg (args.toList.map (ev (p :: T)))) dst (p :: T) H K
    | none => False) := rfl
theorem z29 {dst ty pos after g nid fo args ats} : dstep P E { dst := dst, op := .call { callee := .value fo, args := args, argTypes := ats }, type := ty, pos := pos, after := after, guard := g } (p :: T) H nid DK =
  (match calleeOf (p :: T) fo with
    | some (f, gg) => (args.toList.all fun x => !(ev (p :: T) x).isUndef) = true ∧ dcall P f (gg (args.toList.map (ev (p :: T)))) H nid DK
    | none => False) := by
  simp only [dstep, dcall]
  cases calleeOf (p :: T) fo <;> rfl
theorem z2a {all dst op ty pos after j want rest} : aops P E n all ({ dst := dst, op := op, type := ty, pos := pos, after := after, guard := some (j, want) } :: rest) (p :: T) H QT =
  (match guardOf all j with
      | some t => (match tget (p :: T) t with
        | .d (.bool b) => if b = want then astep P E n { dst := dst, op := op, type := ty, pos := pos, after := after, guard := some (j, want) } ((t, .d (.bool want)) :: p :: T) H (fun T' H' => aops P E n all rest T' H' QT)
          else aops P E n all rest (tput n ((t, .d (.bool !want)) :: p :: T) dst (.d (.tuple []))) H QT
        | .d (.tuple []) => aops P E n all rest (tput n (p :: T) dst (.d (.tuple []))) H QT
        | _ => False)
      | none => False) := rfl
theorem z2b {all s L0 i plan} : drun P E n all s L0 i [] plan (p :: T) H QT = QT (p :: T) H := by cases plan <;> rfl
theorem z3d {dst ty pos after g ms x} : bstep P E n { dst := dst, op := .move x, type := ty, pos := pos, after := after, guard := g } ms (p :: T) H K = evK (evop E (maskT ms (p :: T)) H H.length (.move x)) n (p :: T) dst H K := rfl
theorem z3e {dst ty pos after g ms x} : bstep P E n { dst := dst, op := .assign x, type := ty, pos := pos, after := after, guard := g } ms (p :: T) H K = evK (evop E (maskT ms (p :: T)) H H.length (.assign x)) n (p :: T) dst H K := rfl
theorem z3f {dst ty pos after g ms c x y} : bstep P E n { dst := dst, op := .pick c x y, type := ty, pos := pos, after := after, guard := g } ms (p :: T) H K = evK (evop E (maskT ms (p :: T)) H H.length (.pick c x y)) n (p :: T) dst H K := rfl
theorem z3g {dst ty pos after g ms u t x} : bstep P E n { dst := dst, op := .unOp u t x, type := ty, pos := pos, after := after, guard := g } ms (p :: T) H K = evK (evop E (maskT ms (p :: T)) H H.length (.unOp u t x)) n (p :: T) dst H K := rfl
theorem z3h {dst ty pos after g ms b t x y t'} : bstep P E n { dst := dst, op := .binOp b t x y t', type := ty, pos := pos, after := after, guard := g } ms (p :: T) H K = evK (evop E (maskT ms (p :: T)) H H.length (.binOp b t x y t')) n (p :: T) dst H K := rfl
theorem z3i {dst ty pos after g ms x i} : bstep P E n { dst := dst, op := .extract x i, type := ty, pos := pos, after := after, guard := g } ms (p :: T) H K = evK (evop E (maskT ms (p :: T)) H H.length (.extract x i)) n (p :: T) dst H K := rfl
theorem z3j {dst ty pos after g ms t} : bstep P E n { dst := dst, op := .alloc t, type := ty, pos := pos, after := after, guard := g } ms (p :: T) H K = evK (evop E (maskT ms (p :: T)) H H.length (.alloc t)) n (p :: T) dst H K := rfl
theorem z3k {dst ty pos after g ms t x} : bstep P E n { dst := dst, op := .box t x, type := ty, pos := pos, after := after, guard := g } ms (p :: T) H K = evK (evop E (maskT ms (p :: T)) H H.length (.box t x)) n (p :: T) dst H K := rfl
theorem z3l {dst ty pos after g ms t x} : bstep P E n { dst := dst, op := .load t x, type := ty, pos := pos, after := after, guard := g } ms (p :: T) H K = evK (evop E (maskT ms (p :: T)) H H.length (.load t x)) n (p :: T) dst H K := rfl
theorem z3m {dst ty pos after g ms t x y} : bstep P E n { dst := dst, op := .store t x y, type := ty, pos := pos, after := after, guard := g } ms (p :: T) H K = evK (evop E (maskT ms (p :: T)) H H.length (.store t x y)) n (p :: T) dst H K := rfl
theorem z3n {dst ty pos after g ms t x f} : bstep P E n { dst := dst, op := .fieldAddr t x f, type := ty, pos := pos, after := after, guard := g } ms (p :: T) H K = evK (evop E (maskT ms (p :: T)) H H.length (.fieldAddr t x f)) n (p :: T) dst H K := rfl
theorem z3o {dst ty pos after g ms t x ix} : bstep P E n { dst := dst, op := .indexAddr t x ix, type := ty, pos := pos, after := after, guard := g } ms (p :: T) H K = evK (evop E (maskT ms (p :: T)) H H.length (.indexAddr t x ix)) n (p :: T) dst H K := rfl
theorem z3p {dst ty pos after g ms t x lo hi mx} : bstep P E n { dst := dst, op := .slice t x lo hi mx, type := ty, pos := pos, after := after, guard := g } ms (p :: T) H K = evK (evop E (maskT ms (p :: T)) H H.length (.slice t x lo hi mx)) n (p :: T) dst H K := rfl
theorem z3q {dst ty pos after g ms t k ps} : bstep P E n { dst := dst, op := .buildSlice t k ps, type := ty, pos := pos, after := after, guard := g } ms (p :: T) H K = evK (evop E (maskT ms (p :: T)) H H.length (.buildSlice t k ps)) n (p :: T) dst H K := rfl
theorem z3r {dst ty pos after g ms t ps} : bstep P E n { dst := dst, op := .build t ps, type := ty, pos := pos, after := after, guard := g } ms (p :: T) H K = evK (evop E (maskT ms (p :: T)) H H.length (.build t ps)) n (p :: T) dst H K := rfl
theorem z3s {dst ty pos after g ms f a b} : bstep P E n { dst := dst, op := .makeFunc f a b, type := ty, pos := pos, after := after, guard := g } ms (p :: T) H K = evK (evop E (maskT ms (p :: T)) H H.length (.makeFunc f a b)) n (p :: T) dst H K := rfl
theorem z3t {dst ty pos after g ms x} : bstep P E n { dst := dst, op := .nilCheck x, type := ty, pos := pos, after := after, guard := g } ms (p :: T) H K = evK (evop E (maskT ms (p :: T)) H H.length (.nilCheck x)) n (p :: T) dst H K := rfl
theorem z3u {dst ty pos after g ms s t x} : bstep P E n { dst := dst, op := .convert s t x, type := ty, pos := pos, after := after, guard := g } ms (p :: T) H K = evK (evop E (maskT ms (p :: T)) H H.length (.convert s t x)) n (p :: T) dst H K := rfl
theorem z3v {dst ty pos after g ms b args ats} : bstep P E n { dst := dst, op := .call { callee := .builtin b, args := args, argTypes := ats }, type := ty, pos := pos, after := after, guard := g } ms (p :: T) H K = evK (evop E (maskT ms (p :: T)) H H.length (.call { callee := .builtin b, args := args, argTypes := ats })) n (p :: T) dst H K := rfl
theorem z3w {dst ty pos after g ms fo args ats} : bstep P E n { dst := dst, op := .call { callee := .value fo, args := args, argTypes := ats }, type := ty, pos := pos, after := after, guard := g } ms (p :: T) H K =
  (match calleeOf (maskT ms (p :: T)) fo with
    | some (f, gg) => (args.toList.all fun x => !(ev (maskT ms (p :: T)) x).isUndef) = true ∧ acall P n f (gg (args.toList.map (ev (maskT ms (p :: T))))) dst (p :: T) H K
    | none => False) := by
  simp only [bstep, acall]
  cases calleeOf (maskT ms (p :: T)) fo <;> rfl
theorem z2c {all s L0 i dst op ty pos after rest B ms mi lag plan} : drun P E n all s L0 i ({ dst := dst, op := op, type := ty, pos := pos, after := after, guard := none } :: rest) (⟨B, true, ms, mi, lag⟩ :: plan) (p :: T) H QT =
  bstep P E n { dst := dst, op := op, type := ty, pos := pos, after := after, guard := none } ms (p :: T) H (fun T' H' => drun P E n all (i + 1) H'.length (i + 1) rest plan T' H' QT) := by
  simp [drun]
theorem z2d {all s L0 i dst op ty pos after rest B ms mi lag plan} : drun P E n all s L0 i ({ dst := dst, op := op, type := ty, pos := pos, after := after, guard := none } :: rest) (⟨B, false, ms, mi, lag⟩ :: plan) (p :: T) H QT =
  (dstep P E { dst := dst, op := op, type := ty, pos := pos, after := after, guard := none } (maskT ms (p :: T)) (maskH s L0 mi H) (L0 + (i - s)) fun v b => drun P E n all s L0 (i + 1) rest plan (tput n (p :: T) dst v) (hput H (L0 + (i - s)) b) QT) := by
  simp [drun]
theorem z2e {all s L0 i dst op ty pos after j want rest B ms mi lag plan} : drun P E n all s L0 i ({ dst := dst, op := op, type := ty, pos := pos, after := after, guard := some (j, want) } :: rest) (⟨B, false, ms, mi, lag⟩ :: plan) (p :: T) H QT =
  (match guardOf all j with
        | some t => (match tget (maskT ms (p :: T)) t with
          | .d (.bool b) => if b = want then dstep P E { dst := dst, op := op, type := ty, pos := pos, after := after, guard := some (j, want) } (maskT ms ((t, .d (.bool want)) :: p :: T)) (maskH s L0 mi H) (L0 + (i - s)) fun v b => drun P E n all s L0 (i + 1) rest plan (tput n ((t, .d (.bool want)) :: p :: T) dst v) (hput H (L0 + (i - s)) b) QT
            else drun P E n all s L0 (i + 1) rest plan (tput n ((t, .d (.bool !want)) :: p :: T) dst (.d (.tuple []))) (hput H (L0 + (i - s)) .dead) QT
          | .d (.tuple []) => drun P E n all s L0 (i + 1) rest plan (tput n (p :: T) dst (.d (.tuple []))) (hput H (L0 + (i - s)) .dead) QT
          | _ => False)
        | none => False) := by
  simp only [drun, Bool.false_eq_true, if_false]
  cases guardOf all j with
  | none => rfl
  | some t =>
    simp only
    cases tget (maskT ms (p :: T)) t with
    | d x =>
      cases x with
      | tuple l => cases l <;> rfl
      | _ => rfl
    | _ => rfl
theorem z2f : maskT [] T = T := rfl
theorem z2g {t ms} : maskT (t :: ms) T = (t, .d .undef) :: maskT ms T := rfl
theorem z2h {s L0} : maskH s L0 [] H = H := rfl
theorem z2i {s L0 k r} : maskH s L0 (k :: r) H = maskH s L0 r (if s ≤ k then hput H (L0 + (k - s)) .unborn else H) := rfl
theorem z35 {dst r} : nilK none n T dst H K r = evK r n T dst H K := rfl
theorem z36 {b : Bool} {pt pf : Prop} {dst r} : nilK (some (b, pt, pf)) n T dst H K r = ((pt → K (tput n T dst (.d (.bool b))) H) ∧ (pf → K (tput n T dst (.d (.bool !b))) H)) := rfl
theorem z2j {q : Prop} {v dst ch} : evK (some (q, v, ch)) n T dst H K = (q ∧ K (tput n T dst v) (ch.on H H.length)) := rfl
theorem z2k {q : Prop} {v} : devK (some (q, v, .no)) DK = (q ∧ DK v .dead) := rfl
theorem z2l {q : Prop} {v b} : devK (some (q, v, .new b)) DK = (q ∧ DK v b) := rfl
theorem z2m {rs r} : Fin E rs r .ret T H = afin E rs r T H := rfl
theorem z2n {rs r} : Fin E rs r .normal T H = afin E rs r T H := rfl
theorem z2o {rs r} : afin E rs r T H = (match resOf E T H rs with | some v => xport H 12 v = some r | none => False) := by
  unfold afin
  cases resOf E T H rs <;> simp

/-- A call by value whose result has no address in it. -/
theorem acall_flat {f : Nat} {vs : List V} {ds : List D} {r : D} {dst : Option Nat} (hx : xports H 12 vs = some ds) (h : CSpec P f ds r) (hr : r.flat = true) (hK : K (tput n T dst (.d r)) H) : acall P n f vs dst T H K :=
  ⟨_, _, CSpec.flat 12 hx h hr, hK⟩

/-- A call by value: what is handed over is written no more. -/
theorem acall_ice {f : Nat} {vs : List V} {ds : List D} {r : D} {dst : Option Nat} (hx : xports H 12 vs = some ds) (h : CSpec P f ds r) (hK : K (tput n T dst (.d r)) (freeze H (tidss H 12 vs))) : acall P n f vs dst T H K :=
  ⟨_, _, CSpec.ice 12 hx h, hK⟩

theorem dcall_flat {f : Nat} {vs : List V} {ds : List D} {r : D} (hx : xports H 12 vs = some ds) (h : CSpec P f ds r) (hr : r.flat = true) {nid : Nat} (hK : DK (.d r) .dead) : dcall P f vs H nid DK :=
  ⟨_, _, DSpec.flat hx h hr, hK⟩

theorem dcall_still {f : Nat} {vs : List V} {ds : List D} {r : D} (hx : xports H 12 vs = some ds) (h : CSpec P f ds r) (hi : tidss H 12 vs = []) {nid : Nat} (hK : DK (.d r) .dead) : dcall P f vs H nid DK :=
  ⟨_, _, DSpec.still hx h hi, hK⟩

theorem wdraw_plan {ops : List Oper} (plan : List PE) (hp : planOk ops plan = true) (h : drun P E n ops 0 H.length 0 ops plan T H QT) : wdraw P E n ops T H QT := ⟨plan, hp, h⟩

theorem xports_ds : ∀ (l : List D) (k : Nat), l.length < k → xports H k (l.map V.d) = some l
  | [], k + 1, _ => rfl
  | [], 0, h => by simp at h
  | x :: l, k + 1, h => by
    obtain ⟨k', rfl⟩ : ∃ k', k = k' + 1 := ⟨k - 1, by simp at h; omega⟩
    simp only [List.map_cons, xports, xport, xports_ds l (k' + 1) (by simpa using h)]
  | x :: l, 0, h => by simp at h

/-- SLOTS FORGOTTEN. -/
theorem Weak.sub {T' : Tmps} (h : ∀ q ∈ T', tget T q.1 = q.2) : Weak m T H T' H := by
  intro C φ S w a hH hT
  refine ⟨φ, S, hH, fun t => ?_, .refl⟩
  have : tget T' t = tget T t ∨ tget T' t = .d .undef := by
    clear hT
    induction T' with
    | nil => exact .inr rfl
    | cons q r ih =>
      simp only [tget]
      split
      · rename_i e; left; rw [e]; exact (h q (List.mem_cons_self ..)).symm
      · exact ih (fun q hq => h q (List.mem_cons_of_mem _ hq))
  rcases this with e | e
  · rw [e]; exact hT t
  · rw [e]; exact .d _ _ (.undef _)

theorem wloop_of {x : Code} (T' : Tmps) (hT : ∀ q ∈ T', tget T q.1 = q.2) (h : ∃ k, aloop m (awp P E n m x) Q k T' H) : wloop P E n m x T H Q := ⟨T', H, Weak.sub hT, h⟩

/-- A LOOP: by a measure. -/
theorem aloop_ind {σ : Type} (μ : σ → Nat) (TT : σ → Tmps) (HH : σ → Heap) {F : Tmps → Heap → (Ex → Tmps → Heap → Prop) → Prop} (hmono : ∀ T H (Q1 Q2 : Ex → Tmps → Heap → Prop), (∀ e T' H', Q1 e T' H' → Q2 e T' H') → F T H Q1 → F T H Q2)
    (I : σ → Prop) (hF : ∀ s, I s → F (TT s) (HH s) fun e T' H' => match e with
      | .normal => ∃ s', I s' ∧ μ s' < μ s ∧ Weak m T' H' (TT s') (HH s')
      | e => Q e T' H') : ∀ s, I s → ∃ k, aloop m F Q k (TT s) (HH s) := by
  have key : ∀ (N : Nat) (s : σ), μ s < N → I s → aloop m F Q N (TT s) (HH s) := by
    intro N
    induction N with
    | zero => intro s h; omega
    | succ N ih =>
      intro s hs hI
      refine hmono _ _ _ _ ?_ (hF s hI)
      rintro e T' H' he
      cases e with
      | normal =>
        obtain ⟨s', h1, h2, h3⟩ := he
        exact ⟨_, _, h3, ih s' (by omega) h1⟩
      | exit i => exact he
      | ret => exact he
  exact fun s hI => ⟨_, key (μ s + 1) s (by omega) hI⟩


end
end Go.Proofs.Ythpapgbpmkgfeaa.AM
