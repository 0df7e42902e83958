/- writes.Get. -/
import Derived.Test.YthpapgbpmkgfeaaFq
set_option linter.all false
namespace Go.Proofs.Ythpapgbpmkgfeaa.AM
open Go Go.RowKit Go.Shelf

attribute [local go_sem] Oper.semAt_some

def getW (zs : List (Int × Int)) (c : Int) : Int × Bool := match zs.reverse.find? (fun p => p.1 == c) with
  | some p => (p.2, true)
  | none => (0, false)

theorem getW_none {zs : List (Int × Int)} {c : Int} (h : ∀ p ∈ upto (bk zs zs.length) zs.length, p.2.1 ≠ c) : getW zs c = (0, false) := by
  unfold getW
  have : zs.reverse.find? (fun p => p.1 == c) = none := by
    rw [List.find?_eq_none]
    intro p hp
    obtain ⟨i, hi, rfl⟩ := List.getElem_of_mem hp
    simp only [List.length_reverse] at hi
    have := h (bk zs zs.length i) (by simp only [upto, List.mem_map, List.mem_range]; exact ⟨i, hi, rfl⟩)
    have e : (bk zs zs.length i).2 = zs.reverse[i] := by
      simp only [bk, List.getElem_reverse]
      rw [List.getElem?_eq_getElem (by omega)]; rfl
    rw [e] at this
    simpa using this
  rw [this]

theorem getW_some {zs : List (Int × Int)} {c : Int} {k : Nat} (hk : k < zs.length) (h : ∀ p ∈ upto (bk zs zs.length) k, p.2.1 ≠ c) (he : (bk zs zs.length k).2.1 = c) : getW zs c = ((bk zs zs.length k).2.2, true) := by
  unfold getW
  have e : ∀ i (hi : i < zs.length), (bk zs zs.length i).2 = zs.reverse[i]'(by simpa using hi) := by
    intro i hi
    simp only [bk, List.getElem_reverse]
    rw [List.getElem?_eq_getElem (by omega)]; rfl
  have : zs.reverse.find? (fun p => p.1 == c) = some (bk zs zs.length k).2 := by
    rw [List.find?_eq_some_iff_getElem]
    refine ⟨by simpa using he, k, by simpa using hk, (e k hk).symm, fun j hj => ?_⟩
    have := h (bk zs zs.length j) (by simp only [upto, List.mem_map, List.mem_range]; exact ⟨j, hj, rfl⟩)
    rw [e j (by omega)] at this
    simpa using this
  rw [this]

/-- Right, in the fence. -/
theorem right_in (n : Nat) (L : Lg) (v : Value) (W : World) (hv : RD (fun B => B < W.heap.size) W (dLg L) v) :
    CallsIn Fence.wide n Try.prog 29 #[v] W fun e W' => e = .returned (.bool (logR L)) ∧ Below W.heap.size W W' := by
  refine callsIn_wide.2 ?_
  refine ((c_W_Right L).2 (fun B => B < W.heap.size) W [v] (fun _ h => h) rfl (fun i d c hd hc => ?_)).mono ?_
  · cases i with
    | zero => simp at hd hc; subst hd; subst hc; exact hv
    | succ i => simp at hd
  · rintro e W' ⟨c, S', rfl, hr, _, hk⟩
    cases hr
    exact ⟨rfl, hk.os, hk.tape, hk.output, hk.size, fun B hB => hk.block B hB id⟩

theorem rd_below {x : D} {v : Value} {W W' : World} (h : RD (fun B => B < W.heap.size) W x v) (hb : Below W.heap.size W W') : RD (fun B => B < W'.heap.size) W' x v :=
  h.keep (fun B _ hB => ⟨Nat.lt_of_lt_of_le hB hb.size, hb.block B hB⟩)


/-- A box of these cells. -/
def BoxN (W : World) (B : Nat) (t : TypeId) (cs : Array Value) : Prop := W.heap[B]? = some (.cells cs t)
theorem BoxN.new (W : World) (t : TypeId) (cs : Array Value) : BoxN (W.alloc (.cells cs t)) W.heap.size t cs := World.alloc_heap_new W _
theorem BoxN.alloc {W : World} {B t cs} (h : BoxN W B t cs) (o : Obj) : BoxN (W.alloc o) B t cs := (Below.heap_alloc W o B (Array.getElem?_eq_some_iff.1 h).1).trans h
theorem BoxN.below {W W' : World} {n₀ B t cs} (h : BoxN W B t cs) (hb : Below n₀ W W') (hB : B < n₀) : BoxN W' B t cs := (hb.block B hB).trans h
theorem BoxN.cell {W : World} {B t cs} (h : BoxN W B t cs) {i : Nat} {v : Value} (hv : cs[i]? = some v) : W.cell? ⟨B, i, none⟩ = some v := by
  unfold BoxN at h; simp [World.cell?, h, hv]
theorem BoxN.frozen {W : World} {B t cs} (h : BoxN W B t cs) (i : Nat) : W.frozen? ⟨B, i, none⟩ = false := by
  unfold BoxN at h; simp [World.frozen?, h]
theorem BoxN.lt {W : World} {B t cs} (h : BoxN W B t cs) : B < W.heap.size := (Array.getElem?_eq_some_iff.1 h).1


theorem Wr.mono {A : World} {n m : Nat} {a : Option Addr} {zs : List (Int × Int)} (hm : n ≤ m) : Wr A n a zs → Wr A m a zs
  | .inl e => .inl e
  | .inr ⟨b, off, e, hb, hc⟩ => .inr ⟨b, off, e, by omega, hc⟩

theorem boxN_own {β : Type} (B : Nat) (t : TypeId) (f : β → Array Value) : Own (fun s W => BoxN W B t (f s)) := fun s X Y row hs hg hrow =>
  (hg.block B hs.lt (fun e' => by obtain ⟨o, ho, hc⟩ := hrow B e'.symm; rw [show X.heap[B]? = _ from hs] at ho; cases ho; cases hc)).trans hs

/-- Behind two stores into boxes. -/
theorem two_stores {w W : World} {B t t' : Nat} {x x' y y' : Value} (h4 : BoxN W B t #[x]) (h5 : BoxN W (B + 1) t' #[y]) (hB : w.heap.size ≤ B) (hb : Below w.heap.size w W) :
    ((W.setCell ⟨B, 0, none⟩ x').setCell ⟨B + 1, 0, none⟩ y').cell? ⟨B, 0, none⟩ = some x' ∧ ((W.setCell ⟨B, 0, none⟩ x').setCell ⟨B + 1, 0, none⟩ y').cell? ⟨B + 1, 0, none⟩ = some y' ∧ Below w.heap.size w ((W.setCell ⟨B, 0, none⟩ x').setCell ⟨B + 1, 0, none⟩ y') := by
  have e4 := Boxed.set x' (W := W) (B := B) (t := t) (v := x) h4
  have e5 := Boxed.other (W := W) (B := B + 1) (B' := B) (t := t') (v := y) h5 (by omega) x'
  have e4' := Boxed.other (B := B) (B' := B + 1) e4 (by omega) y'
  have e5' := Boxed.set y' e5
  exact ⟨e4'.cell, e5'.cell, (hb.setCell (p := ⟨B, 0, none⟩) hB x').setCell (p := ⟨B + 1, 0, none⟩) (by show w.heap.size ≤ B + 1; omega) y'⟩

set_option maxRecDepth 100000 in
set_option maxHeartbeats 4000000 in
theorem get_no (n : Nat) (hn : 3 ≤ n) (L : Lg) (a a2 : Option Addr) (cap n2 cap2 : Nat) (c : Int) (w : World) (hlog : logR L = false)
    (hv : RD (fun B => B < w.heap.size) w (dLg L) (.agg #[.slice a L.1.length cap, .slice a2 n2 cap2])) :
    CallsIn Fence.wide n Try.prog 25 #[.agg #[.slice a L.1.length cap, .slice a2 n2 cap2], .int .i64 c] w fun e W' =>
      e = .returned (.tuple #[.int .i64 0, .bool false]) ∧ Below w.heap.size w W' := by
  have hF : ∀ f, Fence.wide.fn f := fun _ => trivial
  have hro : Fence.wide.round = none := rfl
  have h1 : 1 ≤ n := by omega
  refine callsIn_of_wp_marks Try.func25 rfl (hF _) ?_ hro
  simp only [Try.ntmps25, List.size_toArray, List.length_cons, List.length_nil, Nat.reduceAdd, Nat.reduceSub, Array.replicate_succ, Array.replicate_zero, List.push_toArray, List.append_toArray, List.nil_append, List.cons_append]
  have hbx : Below w.heap.size w ((((w.alloc (.cells #[.slice a L.1.length cap, .slice a2 n2 cap2] 25)).alloc (.cells #[.int .i64 c] 3)).alloc (.cells #[.int .i64 0] 3)).alloc (.cells #[.bool false] 4)) :=
    ((((Below.refl _ w).alloc (Nat.le_refl _) _).alloc (by simp) _).alloc (by simp; omega) _).alloc (by simp; omega) _
  have k2 := (((BoxN.new w 25 #[.slice a L.1.length cap, .slice a2 n2 cap2]).alloc (.cells #[.int .i64 c] 3)).alloc (.cells #[.int .i64 0] 3)).alloc (.cells #[.bool false] 4)
  have k3 := (((BoxN.new (w.alloc (.cells #[.slice a L.1.length cap, .slice a2 n2 cap2] 25)) 3 #[.int .i64 c]).alloc (.cells #[.int .i64 0] 3)).alloc (.cells #[.bool false] 4))
  have k4 := ((BoxN.new ((w.alloc (.cells #[.slice a L.1.length cap, .slice a2 n2 cap2] 25)).alloc (.cells #[.int .i64 c] 3)) 3 #[.int .i64 0]).alloc (.cells #[.bool false] 4))
  have k5 := BoxN.new (((w.alloc (.cells #[.slice a L.1.length cap, .slice a2 n2 cap2] 25)).alloc (.cells #[.int .i64 c] 3)).alloc (.cells #[.int .i64 0] 3)) 4 #[.bool false]
  simp only [World.size_alloc] at k3 k4 k5
  have hRt := fun W h => right_in (n - 1) L (.agg #[.slice a L.1.length cap, .slice a2 n2 cap2]) W h
  rw [hlog] at hRt
  have c20' : ∀ W, BoxN W w.heap.size 25 #[.slice a L.1.length cap, .slice a2 n2 cap2] → W.cell? ⟨w.heap.size, 0, none⟩ = some (.slice a L.1.length cap) := fun W h => h.cell rfl
  have c21' : ∀ W, BoxN W w.heap.size 25 #[.slice a L.1.length cap, .slice a2 n2 cap2] → W.cell? ⟨w.heap.size, 1, none⟩ = some (.slice a2 n2 cap2) := fun W h => h.cell rfl
  have c30' : ∀ W, BoxN W (w.heap.size + 1) 3 #[.int .i64 c] → W.cell? ⟨w.heap.size + 1, 0, none⟩ = some (.int .i64 c) := fun W h => h.cell rfl
  have c40' : ∀ W, BoxN W (w.heap.size + 1 + 1) 3 #[.int .i64 0] → W.cell? ⟨w.heap.size + 1 + 1, 0, none⟩ = some (.int .i64 0) := fun W h => h.cell rfl
  have c50' : ∀ W, BoxN W (w.heap.size + 1 + 1 + 1) 4 #[.bool false] → W.cell? ⟨w.heap.size + 1 + 1 + 1, 0, none⟩ = some (.bool false) := fun W h => h.cell rfl
  gi_wp2_with (first | (gi_at_call 29; refine (hRt _ (rd_below hv hbx)).mono ?_; rintro e w1 ⟨rfl, hb1⟩; have q2 := k2.below hb1 k2.lt; have q3 := k3.below hb1 k3.lt; have q4 := k4.below hb1 k4.lt; have q5 := k5.below hb1 k5.lt; have hbw := hbx.trans (hb1.mono hbx.size); clear hb1 hbx k2 k3 k4 k5 hRt; have c20 := c20' _ q2; have c21 := c21' _ q2; have c30 := c30' _ q3; have c40 := c40' _ q4; have c50 := c50' _ q5; have f4 := q4.frozen 0; have f5 := q5.frozen 0) | (gi_at_call 49; refine (back_in Fence.wide (n - 1) hF hro _ _ _ _).mono ?_; rintro e w' ⟨rfl, rfl⟩))
  obtain ⟨e1, e2, e3⟩ := two_stores (w := w) (x' := .int .i64 0) (y' := .bool false) q4 q5 (by omega) hbw
  refine ⟨.tuple #[.int .i64 0, .bool false], ?_, rfl, e3⟩
  simp [results, Try.f25, go_sem, e1, e2]

set_option maxRecDepth 100000 in
set_option maxHeartbeats 4000000 in
theorem get_yes (n : Nat) (hn : 3 ≤ n) (L : Lg) (a a2 : Option Addr) (cap n2 cap2 : Nat) (c : Int) (w : World) (hlog : logR L = true) (hl : L.1.length ≤ 1000000)
    (hv : RD (fun B => B < w.heap.size) w (dLg L) (.agg #[.slice a L.1.length cap, .slice a2 n2 cap2])) (hI : Wr w w.heap.size a L.1) :
    CallsIn Fence.wide n Try.prog 25 #[.agg #[.slice a L.1.length cap, .slice a2 n2 cap2], .int .i64 c] w fun e W' =>
      e = .returned (.tuple #[.int .i64 (getW L.1 c).1, .bool (getW L.1 c).2]) ∧ Below w.heap.size w W' := by
  have hF : ∀ f, Fence.wide.fn f := fun _ => trivial
  have hro : Fence.wide.round = none := rfl
  have h1 : 1 ≤ n := by omega
  refine callsIn_of_wp_marks Try.func25 rfl (hF _) ?_ hro
  simp only [Try.ntmps25, List.size_toArray, List.length_cons, List.length_nil, Nat.reduceAdd, Nat.reduceSub, Array.replicate_succ, Array.replicate_zero, List.push_toArray, List.append_toArray, List.nil_append, List.cons_append]
  have hbx : Below w.heap.size w ((((w.alloc (.cells #[.slice a L.1.length cap, .slice a2 n2 cap2] 25)).alloc (.cells #[.int .i64 c] 3)).alloc (.cells #[.int .i64 0] 3)).alloc (.cells #[.bool false] 4)) :=
    ((((Below.refl _ w).alloc (Nat.le_refl _) _).alloc (by simp) _).alloc (by simp; omega) _).alloc (by simp; omega) _
  have k2 := (((BoxN.new w 25 #[.slice a L.1.length cap, .slice a2 n2 cap2]).alloc (.cells #[.int .i64 c] 3)).alloc (.cells #[.int .i64 0] 3)).alloc (.cells #[.bool false] 4)
  have k3 := (((BoxN.new (w.alloc (.cells #[.slice a L.1.length cap, .slice a2 n2 cap2] 25)) 3 #[.int .i64 c]).alloc (.cells #[.int .i64 0] 3)).alloc (.cells #[.bool false] 4))
  have k4 := ((BoxN.new ((w.alloc (.cells #[.slice a L.1.length cap, .slice a2 n2 cap2] 25)).alloc (.cells #[.int .i64 c] 3)) 3 #[.int .i64 0]).alloc (.cells #[.bool false] 4))
  have k5 := BoxN.new (((w.alloc (.cells #[.slice a L.1.length cap, .slice a2 n2 cap2] 25)).alloc (.cells #[.int .i64 c] 3)).alloc (.cells #[.int .i64 0] 3)) 4 #[.bool false]
  simp only [World.size_alloc] at k3 k4 k5
  have hRt := fun W h => right_in (n - 1) L (.agg #[.slice a L.1.length cap, .slice a2 n2 cap2]) W h
  rw [hlog] at hRt
  have c20' : ∀ W, BoxN W w.heap.size 25 #[.slice a L.1.length cap, .slice a2 n2 cap2] → W.cell? ⟨w.heap.size, 0, none⟩ = some (.slice a L.1.length cap) := fun W h => h.cell rfl
  have c21' : ∀ W, BoxN W w.heap.size 25 #[.slice a L.1.length cap, .slice a2 n2 cap2] → W.cell? ⟨w.heap.size, 1, none⟩ = some (.slice a2 n2 cap2) := fun W h => h.cell rfl
  have c30' : ∀ W, BoxN W (w.heap.size + 1) 3 #[.int .i64 c] → W.cell? ⟨w.heap.size + 1, 0, none⟩ = some (.int .i64 c) := fun W h => h.cell rfl
  have c40' : ∀ W, BoxN W (w.heap.size + 1 + 1) 3 #[.int .i64 0] → W.cell? ⟨w.heap.size + 1 + 1, 0, none⟩ = some (.int .i64 0) := fun W h => h.cell rfl
  have c50' : ∀ W, BoxN W (w.heap.size + 1 + 1 + 1) 4 #[.bool false] → W.cell? ⟨w.heap.size + 1 + 1 + 1, 0, none⟩ = some (.bool false) := fun W h => h.cell rfl
  gi_wp2_with (first | (gi_at_call 29; refine (hRt _ (rd_below hv hbx)).mono ?_; rintro e w1 ⟨rfl, hb1⟩; have q2 := k2.below hb1 k2.lt; have q3 := k3.below hb1 k3.lt; have q4 := k4.below hb1 k4.lt; have q5 := k5.below hb1 k5.lt; have hbw := hbx.trans (hb1.mono hbx.size); clear hb1 hbx k2 k3 k4 k5 hRt; have c20 := c20' _ q2; have c21 := c21' _ q2; have c30 := c30' _ q3; have c40 := c40' _ q4; have c50 := c50' _ q5; have f4 := q4.frozen 0; have f5 := q5.frozen 0) | (gi_at_call 49; refine (back_in Fence.wide (n - 1) hF hro _ _ _ _).mono ?_; rintro e w' ⟨rfl, rfl⟩))
  clear c20' c21' c30' c40' c50'
  have hBn := BoxN.new w1 22 #[.slice a L.1.length cap]
  have hbn : Below w1.heap.size w1 (w1.alloc (.cells #[.slice a L.1.length cap] 22)) := (Below.refl _ w1).alloc (Nat.le_refl _) _
  have hsz : (w1.alloc (.cells #[.slice a L.1.length cap] 22)).heap.size = w1.heap.size + 1 := World.size_alloc _ _
  have r3 := q3.below hbn q3.lt
  have r4 := q4.below hbn q4.lt
  have r5 := q5.below hbn q5.lt
  have hbW := hbw.trans (hbn.mono hbw.size)
  have hI4 : Wr (w1.alloc (.cells #[.slice a L.1.length cap] 22)) (w1.alloc (.cells #[.slice a L.1.length cap] 22)).heap.size a L.1 := (hI.below hbW).mono hbW.size
  have hw1 := hbw.size
  have l5 := q5.lt
  clear q2 q3 q4 q5 c20 c21 c30 c40 c50 f4 f5 hbn
  generalize hW4 : w1.alloc (.cells #[.slice a L.1.length cap] 22) = W4 at *
  clear hW4
  refine wpIn_rangeFunc_ownH hro h1 (gf := 70) (lb := #[.pointer (some ⟨w1.heap.size, 0, none⟩)]) rfl (hF _) (enters_of Try.func70 (by kernel_rfl) rfl)
    (back_stops Fence.wide (n - 1) hF hro (by omega) w1.heap.size W4.heap.size a cap L.1 hl W4 (by omega) (Nat.le_refl _) (hBn.cell rfl) hI4) belowK_t (belowK_b (Nat.le_refl _)) (Below.refl _ _) (fun _ => rfl)
    (fun pre W => (∀ p ∈ pre, p.2.1 ≠ c) ∧ Below W4.heap.size W4 W)
    (fun j pre W => (j = .ret ∧ (∃ ini last, pre = ini ++ [last] ∧ (∀ p ∈ ini, p.2.1 ≠ c) ∧ last.2.1 = c ∧ W.cell? ⟨w.heap.size + 1 + 1, 0, none⟩ = some (.int .i64 last.2.2)) ∧ W.cell? ⟨w.heap.size + 1 + 1 + 1, 0, none⟩ = some (.bool true)) ∧ Below w.heap.size w W)
    (OwnFrom.and (ownFrom_pure _ _) (ownFrom_below (Nat.le_refl _) (Nat.le_refl _)))
    (fun j => OwnFrom.and (Own.from (fun s A B row hs hg hr => by obtain ⟨hc, ⟨ini, last, e1, e2, e3, e4⟩, e5⟩ := hs; exact ⟨hc, ⟨ini, last, e1, e2, e3, cell_kept e4 hg hr⟩, cell_kept e5 hg hr⟩) _) (ownFrom_below (Nat.le_refl _) (by omega)))
    ⟨by simp, Below.refl _ _⟩
    (fun x a' W => ∃ Bx, W4.heap.size ≤ Bx ∧ BoxN W Bx 27 #[.int .i64 x.2.1, .int .i64 x.2.2] ∧ a' = { tmps := #[.agg #[.slice a L.1.length cap, .slice a2 n2 cap2], .int .i64 c,
          .pointer (some ⟨w.heap.size, 0, none⟩), .pointer (some ⟨w.heap.size + 1, 0, none⟩), .pointer (some ⟨w.heap.size + 1 + 1, 0, none⟩), .pointer (some ⟨w.heap.size + 1 + 1 + 1, 0, none⟩), undef, .pointer (some ⟨Bx, 0, none⟩),
          .agg #[.slice a L.1.length cap, .slice a2 n2 cap2], .bool true, .bool false, .pointer (some ⟨w.heap.size, 0, none⟩), .slice a L.1.length cap,
          .func (.func 70) #[] #[.pointer (some ⟨w1.heap.size, 0, none⟩)], .int .i64 x.1, .agg #[.int .i64 x.2.1, .int .i64 x.2.2], undef, undef, undef, undef, undef, undef], defers := [] })
    (fun x a' => fun s A B row hs hg hr => by obtain ⟨Bx, g1, g2, g3⟩ := hs; exact ⟨Bx, g1, boxN_own Bx _ (fun _ : Unit => #[.int .i64 x.2.1, .int .i64 x.2.2]) () A B row g2 hg (fun r e => (hr r e).2), g3⟩) ?assign ?body ?done ?stop
  case assign =>
    rintro l pre x W K ⟨hi, hB⟩ hK
    gi_wp2
    exact hK _ _ ((KeepsOthers.alloc _ _).from _) ((Below.refl _ W).alloc hB.size _) ⟨hi, hB.alloc hB.size _⟩ ⟨W.heap.size, hB.size, BoxN.new W _ _, rfl⟩
  case body =>
    rintro l pre x a' W hl' ⟨r, hr⟩ ⟨hi, hB⟩ ⟨Bx, hBx, bX, rfl⟩ hlt
    have s3 := r3.below hB r3.lt
    have s4 := r4.below hB r4.lt
    have s5 := r5.below hB r5.lt
    have c0 : W.cell? ⟨Bx, 0, none⟩ = some (.int .i64 x.2.1) := bX.cell rfl
    have c1 : W.cell? ⟨Bx, 1, none⟩ = some (.int .i64 x.2.2) := bX.cell rfl
    have c3 : W.cell? ⟨w.heap.size + 1, 0, none⟩ = some (.int .i64 c) := s3.cell rfl
    have c4 : W.cell? ⟨w.heap.size + 1 + 1, 0, none⟩ = some (.int .i64 0) := s4.cell rfl
    have c5 : W.cell? ⟨w.heap.size + 1 + 1 + 1, 0, none⟩ = some (.bool false) := s5.cell rfl
    have f4 := s4.frozen 0
    have f5 := s5.frozen 0
    gi_wp2
    · have hx : x.2.1 = c := eq_of_beq (by assumption)
      obtain ⟨t1, t2, t3⟩ := two_stores (w := w) (x' := .int .i64 x.2.2) (y' := .bool true) s4 s5 (by omega) (hbW.trans (hB.mono hbW.size))
      exact ⟨((KeepsOthers.setCell _ _ _).trans (KeepsOthers.setCell _ _ _)).from _, ⟨rfl, ⟨pre, x, rfl, hi, hx, t1⟩, t2⟩, t3⟩
    · have hx : x.2.1 ≠ c := ne_of_beq_false (by assumption)
      exact ⟨KeepsFrom.refl _ _, Below.refl _ _, ⟨fun p hp' => (List.mem_append.1 hp').elim (hi p) (fun e => by simp at e; subst e; exact hx), hB⟩⟩
  case done =>
    rintro D ys W hD rfl ⟨hne, hB⟩ hK
    have s4 := r4.below hB r4.lt
    have s5 := r5.below hB r5.lt
    have c4 : W.cell? ⟨w.heap.size + 1 + 1, 0, none⟩ = some (.int .i64 0) := s4.cell rfl
    have c5 : W.cell? ⟨w.heap.size + 1 + 1 + 1, 0, none⟩ = some (.bool false) := s5.cell rfl
    have f4 := s4.frozen 0
    have f5 := s5.frozen 0
    gi_wp2
    obtain ⟨t1, t2, t3⟩ := two_stores (w := w) (x' := .int .i64 0) (y' := .bool false) s4 s5 (by omega) (hbW.trans (hB.mono hbW.size))
    have hK' := ((KeepsOthers.setCell W ⟨w.heap.size + 1 + 1, 0, none⟩ (.int .i64 0)).trans (KeepsOthers.setCell _ ⟨w.heap.size + 1 + 1 + 1, 0, none⟩ (.bool false))).same D _ hK rfl
    refine ⟨by simp, .inl ⟨_, _, rfl, run_takeDeferred hK', ?_⟩⟩
    have d1 := cell_kept t1 (grownBy_putObj' _ D (.deferred none)) (fun r e => by cases e; exact ⟨_, hK', rfl⟩)
    have d2 := cell_kept t2 (grownBy_putObj' _ D (.deferred none)) (fun r e => by cases e; exact ⟨_, hK', rfl⟩)
    refine ⟨.tuple #[.int .i64 0, .bool false], ?_, by rw [getW_none hne], t3.trans (belowK_b (w := w) (Nat.le_refl _) _ D _ _ (by omega) hK' rfl rfl)⟩
    simp [results, Try.f25, go_sem, d1, d2]
  case stop =>
    rintro D j pre W hD ⟨k, hk, rfl⟩ ⟨⟨rfl, ⟨ini, last, e1, e2, e3, c4⟩, c5⟩, hB⟩ hK
    gi_wp2
    refine ⟨by simp, .inl ⟨_, _, rfl, run_takeDeferred hK, ?_⟩⟩
    have d1 := cell_kept c4 (grownBy_putObj' _ D (.deferred none)) (fun r e => by cases e; exact ⟨_, hK, rfl⟩)
    have d2 := cell_kept c5 (grownBy_putObj' _ D (.deferred none)) (fun r e => by cases e; exact ⟨_, hK, rfl⟩)
    obtain ⟨k', rfl⟩ : ∃ k', k = k' + 1 := by
      cases k with
      | zero => simp [upto] at e1
      | succ k' => exact ⟨k', rfl⟩
    rw [upto_succ] at e1
    obtain ⟨rfl, e5⟩ := List.append_inj' e1 rfl
    obtain rfl : bk L.1 L.1.length k' = last := by simpa using e5
    refine ⟨.tuple #[.int .i64 (bk L.1 L.1.length k').2.2, .bool true], ?_, by rw [getW_some (by omega) e2 e3], hB.trans (belowK_b (w := w) (Nat.le_refl _) _ D _ _ (by omega) hK rfl rfl)⟩
    simp [results, Try.f25, go_sem, d1, d2]

theorem logR_len {L : Lg} (h : logR L = true) : L.1.length ≤ 24 ∧ L.2.length ≤ 6 := by
  simp only [logR, Bool.and_eq_true, decide_eq_true_eq] at h
  exact ⟨h.1.1.1.1, h.1.1.1.2⟩

/-- writes.Get: the last write of the cell, or none. -/
theorem c_Get (L : Lg) (c : Int) : CSpec Try.prog 25 [dLg L, .int .i64 c] (.tuple [.int .i64 (if logR L = true then (getW L.1 c).1 else 0), .bool (logR L && (getW L.1 c).2)]) := by
  refine ⟨fun args w => Try.call25 args w, fun S0 w cs hS0 hlen hrel => ?_⟩
  match cs, hlen with
  | [v, cv], _ =>
    have hv0 := hrel 0 _ v rfl rfl
    have hc0 := hrel 1 _ cv rfl rfl
    cases hc0
    have hv : RD (fun B => B < w.heap.size) w (dLg L) v := hv0.keep (fun B hB _ => ⟨hS0 B hB, rfl⟩)
    have hv' := hv
    unfold dLg at hv
    cases hv with
    | agg _ cs hl hcs =>
      match cs, hl with
      | [s1, s2], _ =>
        have h1 := hcs 0 _ s1 rfl rfl
        have h2 := hcs 1 _ s2 rfl rfl
        generalize hL1 : L.1.map dW = els at h1
        generalize hL2 : L.2.map dI = els2 at h2
        cases h1 with
        | vec _ a cap B o sz m hcap ha hsz hcell hval =>
          cases h2 with
          | vec _ a2 cap2 B2 o2 sz2 m2 _ _ _ _ _ =>
            have hlen : els.length = L.1.length := by rw [← hL1]; simp
            have hI : Wr w w.heap.size a L.1 := by
              rcases Nat.eq_zero_or_pos L.1.length with h0 | h0
              · exact .inl (List.length_eq_zero_iff.1 h0)
              · have hne : els ≠ [] := fun e => by rw [e] at hlen; simp at hlen; omega
                refine .inr ⟨B, o, ha hne, ?_, fun j hj => ?_⟩
                · have e0 : els[0]? = some (dW L.1[0]) := by rw [← hL1]; simp [List.getElem?_eq_getElem h0]
                  exact (hcell 0 _ 0 _ e0 rfl).1
                · have e0 : els[j]? = some (dW L.1[j]) := by rw [← hL1]; simp [List.getElem?_eq_getElem hj]
                  have hs : sz = 2 := by have := hsz _ (List.mem_of_getElem? e0); simpa [dW, D.cells] using this.symm
                  subst hs
                  have a0 := (hcell j _ 0 _ e0 rfl).2
                  have a1 := (hcell j _ 1 _ e0 rfl).2
                  have b0 := hval j _ 0 _ e0 rfl
                  have b1 := hval j _ 1 _ e0 rfl
                  rw [List.getElem?_eq_getElem hj]
                  generalize m (j * 2 + 0) = q0 at a0 b0
                  generalize m (j * 2 + 1) = q1 at a1 b1
                  cases b0
                  cases b1
                  exact ⟨a0, by rw [Nat.add_assoc]; exact a1⟩
            rw [hlen] at hv' ⊢
            have fin : ∀ (x : Int) (y : Bool), (Calls Try.prog 25 #[.agg #[.slice a L.1.length cap, .slice a2 els2.length cap2], .int .i64 c] w fun e W' => e = .returned (.tuple #[.int .i64 x, .bool y]) ∧ Below w.heap.size w W') →
                Calls Try.prog 25 #[.agg #[.slice a L.1.length cap, .slice a2 els2.length cap2], .int .i64 c] w fun e w' => ∃ c S', e = .returned c ∧ RD S' w' (.tuple [.int .i64 x, .bool y]) c ∧ (∀ B, S' B → (S0 B ∨ w.heap.size ≤ B) ∧ B < w'.heap.size) ∧ Kp ⟨w.heap.size, fun _ => False, S0⟩ w w' := by
              intro x y h
              refine h.mono ?_
              rintro e W' ⟨rfl, hb⟩
              refine ⟨_, fun _ => False, rfl, RD.tuple [.int .i64 x, .bool y] [.int .i64 x, .bool y] rfl (fun i d c hd hc => ?_), fun B hB => hB.elim, ⟨hb.os, hb.tape, hb.output, hb.size, fun B hB _ => hb.block B hB⟩⟩
              match i with
              | 0 => simp at hd hc; subst hd; subst hc; exact .int _ _
              | 1 => simp at hd hc; subst hd; subst hc; exact .bool _
              | i + 2 => simp at hd
            refine fin _ _ ?_
            cases hlog : logR L with
            | false => exact callsIn_wide.1 (get_no 3 (Nat.le_refl _) L a a2 cap els2.length cap2 c w hlog hv')
            | true => exact callsIn_wide.1 (get_yes 3 (Nat.le_refl _) L a a2 cap els2.length cap2 c w hlog (by have := (logR_len hlog).1; omega) hv' hI)

end Go.Proofs.Ythpapgbpmkgfeaa.AM
