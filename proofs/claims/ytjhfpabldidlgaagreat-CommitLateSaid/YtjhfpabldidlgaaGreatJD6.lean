/- The texts Rs, Dq, Dr, Ds, Dp, joined. -/
import Derived.Carry
import Derived.Test.YtjhfpabldidlgaaGreatJD5

set_option linter.all false
set_option maxRecDepth 100000
namespace Go.Proofs.YtjhfpabldidlgaaGreat.AM
open Go Go.RowKit Go.ChangeShapes

theorem shE_Wl {n : Nat} {d : D} (h : ShE Tryz.prog (n + 4) 73 d) : ∃ w : Wl, d = dWl w ∧ True := by
  obtain ⟨ds, h1, rfl⟩ := h
  simp only [Sh, Tryz.underlying73, ShF] at h1
  obtain ⟨p, q, rfl, hp, p2, q2, rfl, hp2, p3, q3, rfl, hp3, rfl⟩ := h1
  obtain ⟨xs, rfl, hl, _⟩ := sh_list (n := n + 2) Tryz.underlying48 (fun d h => shE_C (n := n) h) (by simpa only [Sh] using hp)
  obtain ⟨ys, rfl, hl2, _⟩ := sh_list (n := n + 2) Tryz.underlying49 (fun d h => shE_R (n := n) h) (by simpa only [Sh] using hp2)
  obtain ⟨z, rfl, _⟩ := sh_int (n := n + 2) Tryz.underlying3 (by simpa only [Sh] using hp3)
  exact ⟨⟨xs, ys, z⟩, by simp [oneD, Tryz.underlying73, dWl], trivial⟩

theorem trodAll_five {H : Type} {enc : TypeId × Value → H} {P : Program} {w : World} {base : Nat} {spare : Nat → Bool} {held : Bool} {t0 t1 t2 t3 t4 : TypeId} {args : Array Value} {ds : List (DataW H)} {ps : List MemPlace} (h : DataW.TrodAll enc P w base spare held [t0, t1, t2, t3, t4] args.toList ds ps) :
    ∃ v0 v1 v2 v3 v4 d0 d1 d2 d3 d4 p0 p1 p2 p3 p4, args = #[v0, v1, v2, v3, v4] ∧ ds = [d0, d1, d2, d3, d4] ∧ ps = p0 ++ p1 ++ p2 ++ p3 ++ p4 ∧ DataW.Trod enc P w base spare held t0 v0 d0 p0 ∧ DataW.Trod enc P w base spare held t1 v1 d1 p1 ∧ DataW.Trod enc P w base spare held t2 v2 d2 p2 ∧ DataW.Trod enc P w base spare held t3 v3 d3 p3 ∧ DataW.Trod enc P w base spare held t4 v4 d4 p4 := by
  obtain ⟨v0, s0, d0, e0, p0, q0, hargs, rfl, rfl, h0, r0⟩ := trodAll_cons h
  obtain ⟨v1, s1, d1, e1, p1, q1, rfl, rfl, rfl, h1, r1⟩ := trodAll_cons r0
  obtain ⟨v2, s2, d2, e2, p2, q2, rfl, rfl, rfl, h2, r2⟩ := trodAll_cons r1
  obtain ⟨v3, s3, d3, e3, p3, q3, rfl, rfl, rfl, h3, r3⟩ := trodAll_cons r2
  obtain ⟨v4, s4, d4, e4, p4, q4, rfl, rfl, rfl, h4, r4⟩ := trodAll_cons r3
  obtain ⟨rfl, rfl, rfl⟩ := trodAll_nil r4
  exact ⟨v0, v1, v2, v3, v4, d0, d1, d2, d3, d4, p0, p1, p2, p3, p4, by cases args; simp_all, rfl, by simp, h0, h1, h2, h3, h4⟩

theorem trodAll_six {H : Type} {enc : TypeId × Value → H} {P : Program} {w : World} {base : Nat} {spare : Nat → Bool} {held : Bool} {t0 t1 t2 t3 t4 t5 : TypeId} {args : Array Value} {ds : List (DataW H)} {ps : List MemPlace} (h : DataW.TrodAll enc P w base spare held [t0, t1, t2, t3, t4, t5] args.toList ds ps) :
    ∃ v0 v1 v2 v3 v4 v5 d0 d1 d2 d3 d4 d5 p0 p1 p2 p3 p4 p5, args = #[v0, v1, v2, v3, v4, v5] ∧ ds = [d0, d1, d2, d3, d4, d5] ∧ ps = p0 ++ p1 ++ p2 ++ p3 ++ p4 ++ p5 ∧ DataW.Trod enc P w base spare held t0 v0 d0 p0 ∧ DataW.Trod enc P w base spare held t1 v1 d1 p1 ∧ DataW.Trod enc P w base spare held t2 v2 d2 p2 ∧ DataW.Trod enc P w base spare held t3 v3 d3 p3 ∧ DataW.Trod enc P w base spare held t4 v4 d4 p4 ∧ DataW.Trod enc P w base spare held t5 v5 d5 p5 := by
  obtain ⟨v0, s0, d0, e0, p0, q0, hargs, rfl, rfl, h0, r0⟩ := trodAll_cons h
  obtain ⟨v1, s1, d1, e1, p1, q1, rfl, rfl, rfl, h1, r1⟩ := trodAll_cons r0
  obtain ⟨v2, s2, d2, e2, p2, q2, rfl, rfl, rfl, h2, r2⟩ := trodAll_cons r1
  obtain ⟨v3, s3, d3, e3, p3, q3, rfl, rfl, rfl, h3, r3⟩ := trodAll_cons r2
  obtain ⟨v4, s4, d4, e4, p4, q4, rfl, rfl, rfl, h4, r4⟩ := trodAll_cons r3
  obtain ⟨v5, s5, d5, e5, p5, q5, rfl, rfl, rfl, h5, r5⟩ := trodAll_cons r4
  obtain ⟨rfl, rfl, rfl⟩ := trodAll_nil r5
  exact ⟨v0, v1, v2, v3, v4, v5, d0, d1, d2, d3, d4, d5, p0, p1, p2, p3, p4, p5, by cases args; simp_all, rfl, by simp, h0, h1, h2, h3, h4, h5⟩
end Go.Proofs.YtjhfpabldidlgaaGreat.AM

set_option linter.all false
set_option maxRecDepth 100000
set_option maxHeartbeats 4000000
namespace Go.Proofs.YtjhfpabldidlgaaGreat.AM
open Go Go.RowKit

def wlC (w : Wl) : List D := [.vec (w.heap.map dC), .vec (w.tab.map dW), .int .i64 w.clock]
theorem newRd_rec {h : List (Bool × Int)} {r : List (Int × Int)} {x : Rd} (g : NewRd h r x) : 0 ≤ x.1.tmod r.length ∧ x.1.tmod r.length < r.length ∧ recAt r (x.1.tmod r.length) = (x.2.1, 0) := by
  obtain ⟨_, h0, h1, h2, h3⟩ := g
  refine ⟨h1, ?_, ?_⟩
  · exact Int.tmod_lt_of_pos _ (show (0 : Int) < r.length by omega)
  · unfold recAt; rw [h3]; rfl

theorem valid_bad {l : List Rd} {t : List (Int × Int)} {who : Int} (h0 : readsR l = true) (h1 : tableR t = true) (h2 : whoB who = true) {x : Rd} (hx : x ∈ l) (hb : staleR t who x = true) : validR l t who = 8 := by
  unfold validR
  rw [if_pos (by rw [h0, h1, h2]; rfl), if_pos (List.any_eq_true.2 ⟨x, hx, hb⟩)]
theorem valid_ok {l : List Rd} {t : List (Int × Int)} {who : Int} (h0 : readsR l = true) (h1 : tableR t = true) (h2 : whoB who = true) (hb : ∀ x ∈ l, staleR t who x = false) : validR l t who = 0 := by
  unfold validR
  rw [if_pos (by rw [h0, h1, h2]; rfl), if_neg]
  rw [Bool.not_eq_true, List.any_eq_false]
  intro x hx; simp [hb x hx]

theorem stale_tab1 {c : Cm} {w : Wl} (h : At0 c w) (hz : fC c w 0 = 0) {x : Rd} (x0 : 0 ≤ x.1) (hb : staleR w.tab c.t.who x = true) : staleR (tab1 c w) c.t.who x = true := by
  obtain ⟨m1, m2, m3, m4, m5⟩ := mayW_iff.1 h.may
  have hmo := mayO_cells h.well.log m2
  obtain ⟨l1, l2⟩ := lock_table m2 hmo h.well.who
  obtain ⟨p, q, r⟩ := lock_rec hmo h.well.who hz
  have htl := tableR_len m2
  have i0 := Int.tmod_nonneg (w.tab.length : Int) x0
  have i1 := Int.tmod_lt_of_pos x.1 (show (0 : Int) < w.tab.length by omega)
  have ll : (tab1 c w).length = w.tab.length := lockR_len ..
  unfold staleR at hb ⊢
  rw [ll]
  generalize x.1.tmod (w.tab.length : Int) = i at i0 i1 hb
  have l2' := l2 i i0 i1
  have r' := r i i0 i1
  have q' := q i
  unfold tab1
  rw [l2']
  rw [Bool.or_eq_true] at hb ⊢
  rcases hb with g | g
  · exact .inl g
  · right
    rw [r']
    by_cases e : i ∈ ofR w.tab (cellsC c)
    · have := q' e
      unfold badO at this
      rw [this] at g; cases g
    · rw [if_neg e]; exact g

theorem late {c : Cm} {w : Wl} (h : At0 c w) (hc : w.clock ≠ 2147483647) {x : Rd} (hx : x ∈ c.t.reads) (x0 : 0 ≤ x.1) (hb : staleR w.tab c.t.who x = true) :
    (itC 5 (c, w)).1.phase = 6 ∧ ((itC 5 (c, w)).1.err = 8 ∨ (itC 5 (c, w)).1.err = 7 ∧ fC c w 0 ≠ 0) ∧ ∃ n, n ≤ 3 ∧ (∀ i, i < n → fC c w i = 0) ∧ itC 5 (c, w) = gC c w n (fC c w n) := by
  obtain ⟨m1, m2, m3, m4, m5⟩ := mayW_iff.1 h.may
  have hmo := mayO_cells h.well.log m2
  obtain ⟨l1, l2⟩ := lock_table m2 hmo h.well.who
  have e2 : fC c w 2 = validR c.t.reads (tab1 c w) c.t.who := rfl
  have t1 : tableR (tab1 c w) = true := l1
  have f2 : fC c w 0 = 0 → fC c w 2 = 8 := fun hz => by
    rw [e2]
    exact valid_bad h.well.rds t1 h.well.who hx (stale_tab1 h hz x0 hb)
  have f1 : fC c w 1 = 0 := by simp [fC, hc]
  have f0 : fC c w 0 ≠ 0 → fC c w 0 = 7 := fun he => (lock_err hmo h.well.who he).1
  have ge : ∀ n, n ≤ 3 → fC c w n ≠ 0 → (∀ i, i < n → fC c w i = 0) → fC c w n = 8 ∨ fC c w n = 7 ∧ fC c w 0 ≠ 0 := fun n hn he hf => by
    by_cases n0 : n = 0
    · subst n0; exact .inr ⟨f0 he, he⟩
    by_cases n1 : n = 1
    · subst n1; exact absurd f1 he
    have h8 := f2 (hf 0 (by omega))
    by_cases n2 : n = 2
    · subst n2; exact .inl h8
    · have h0 := hf 2 (by omega)
      rw [h0] at h8
      exact absurd h8 (by decide)
  rcases reach h 5 with ⟨n, hn, hz, hf, hk⟩ | ⟨n, hn, hk, hz, he, hf⟩
  · have n5 : n = 5 := by omega
    have h8 := f2 (hf 0 (by omega))
    have h0 := hf 2 (by omega)
    rw [h0] at h8
    exact absurd h8 (by decide)
  · have hg := ge n hn he hf
    have e1 : (gC c w n (fC c w n)).1.phase = 6 := rfl
    have e2 : (gC c w n (fC c w n)).1.err = fC c w n := rfl
    rw [hz, e2]
    exact ⟨e1, hg, n, hn, hf, rfl⟩

def Free (t : List (Int × Int)) : Prop := ∀ i : Int, 0 ≤ i → i < t.length → (recAt t i).2 = 0
theorem free_lock {c : Cm} {w : Wl} (h : At0 c w) (hf : Free w.tab) : fC c w 0 = 0 := by
  obtain ⟨m1, m2, m3, m4, m5⟩ := mayW_iff.1 h.may
  refine Classical.byContradiction fun g => ?_
  obtain ⟨_, i, hi, hb⟩ := lock_err (mayO_cells h.well.log m2) h.well.who g
  obtain ⟨a, b⟩ := ofR_in hi
  have := hf i a b
  simp [badO, this] at hb
theorem free_held {t : List (Int × Int)} {who : Int} (hf : Free t) : heldR t who = [] := by
  refine List.eq_nil_iff_forall_not_mem.2 (fun i hi => ?_)
  obtain ⟨a, b, d, e⟩ := heldR_mem.1 hi
  simp only [Bool.and_eq_true] at a
  have := whoB_0 a.2
  have := hf i b d
  omega
theorem comes {c : Cm} {w : Wl} (h : At0 c w) (hf : Free w.tab) (hc : w.clock ≠ 2147483647) (hl : ∀ x ∈ c.t.log.1, thereB w.heap x.1 = true)
    (hr : ∀ x ∈ c.t.reads, 0 ≤ x.1 ∧ (recAt w.tab (x.1.tmod w.tab.length)).1 = x.2.1) : itC 5 (c, w) = sC c w 5 := by
  obtain ⟨m1, m2, m3, m4, m5⟩ := mayW_iff.1 h.may
  have hmo := mayO_cells h.well.log m2
  obtain ⟨l1, l2⟩ := lock_table m2 hmo h.well.who
  have hz := free_lock h hf
  obtain ⟨p, q, r⟩ := lock_rec hmo h.well.who hz
  have htl := tableR_len m2
  have hwb := whoB_0 h.well.who
  have ll : (tab1 c w).length = w.tab.length := lockR_len ..
  have f : ∀ i, i < 5 → fC c w i = 0 := fun i hi => by
    match i, hi with
    | 0, _ => exact hz
    | 1, _ => simp [fC, hc]
    | 2, _ =>
      refine valid_ok h.well.rds l1 h.well.who (fun x hx => ?_)
      obtain ⟨x0, hv⟩ := hr x hx
      have i0 := Int.tmod_nonneg (w.tab.length : Int) x0
      have i1 := Int.tmod_lt_of_pos x.1 (show (0 : Int) < w.tab.length by omega)
      unfold staleR
      rw [ll]
      generalize x.1.tmod (w.tab.length : Int) = i at i0 i1 hv
      have := l2 i i0 i1
      have := hf i i0 i1
      unfold tab1
      rw [r i i0 i1]
      by_cases e : i ∈ ofR w.tab (cellsC c)
      · rw [if_pos e]; simp [hv]
      · rw [if_neg e]; simp [hv, this]
    | 3, _ => exact put_ok h hl
    | 4, _ => rfl
  rcases reach h 5 with ⟨n, hn, hz, hf', hk⟩ | ⟨n, hn, hk, hz, he, hf'⟩
  · have : n = 5 := by omega
    subst this; exact hz
  · exact absurd (f n (by omega)) he
theorem tab2_rec {c : Cm} {w : Wl} (h : At0 c w) (hf : Free w.tab) (hc : w.clock ≠ 2147483647) : (tab2 c w).length = w.tab.length ∧ ∀ i : Int, 0 ≤ i → i < w.tab.length → recAt (tab2 c w) i = if i ∈ ofR w.tab (cellsC c) then (w.clock + 1, 0) else recAt w.tab i := by
  obtain ⟨m1, m2, m3, m4, m5⟩ := mayW_iff.1 h.may
  have hmo := mayO_cells h.well.log m2
  obtain ⟨l1, l2⟩ := lock_table m2 hmo h.well.who
  have hz := free_lock h hf
  obtain ⟨p, q, r⟩ := lock_rec hmo h.well.who hz
  have hwb := whoB_0 h.well.who
  have ll : (tab1 c w).length = w.tab.length := lockR_len ..
  have hv : ∀ i : Int, 0 ≤ i → i < (tab1 c w).length → (recAt (tab1 c w) i).1 < w.clock + 1 := fun i a b => by
    have := m5 i a (by omega)
    have := l2 i a (by omega)
    unfold tab1; omega
  obtain ⟨s1, s2, s3⟩ := stamp_ok (t := tab1 c w) (v := w.clock + 1) l1 h.well.who (by omega) (by omega) hv
  refine ⟨by show (stampR (tab1 c w) c.t.who (w.clock + 1)).1.length = _; rw [s2, ll], fun i a b => ?_⟩
  show recAt (stampR (tab1 c w) c.t.who (w.clock + 1)).1 i = _
  have hr : recAt (tab1 c w) i = if i ∈ ofR w.tab (cellsC c) then ((recAt w.tab i).1, c.t.who) else recAt w.tab i := r i a b
  rw [s3 i a (by omega), hr]
  by_cases e : i ∈ ofR w.tab (cellsC c)
  · rw [if_pos e, if_pos e, if_pos rfl]
  · rw [if_neg e, if_neg e, if_neg]
    have := hf i a b
    omega
theorem tab2_free {c : Cm} {w : Wl} (h : At0 c w) (hf : Free w.tab) (hc : w.clock ≠ 2147483647) : Free (tab2 c w) := fun i a b => by
  obtain ⟨l, r⟩ := tab2_rec h hf hc
  rw [r i a (by omega)]
  split
  · rfl
  · exact hf i a (by omega)

def otherW (w : Wl) (other cell : Int) (hold : Bool) : Wl :=
  if hold = true then ⟨w.heap, (lockR w.tab other [cell]).1, w.clock⟩ else ⟨w.heap, (stampR (lockR w.tab other [cell]).1 other (w.clock + 1)).1, w.clock + 1⟩
theorem other_ok {w : Wl} {other cell : Int} {hold : Bool} (hm : mayW w = true) (hc0 : 0 ≤ cell) (hk : w.clock ≤ 2147483644) (hz : (lockR w.tab other [cell]).2 = 0) :
    whoB other = true ∧ mayW (otherW w other cell hold) = true ∧ (otherW w other cell hold).tab.length = w.tab.length ∧ (otherW w other cell hold).heap = w.heap ∧ (otherW w other cell hold).clock ≤ 2147483645 ∧
    (recAt (otherW w other cell hold).tab (cell.tmod w.tab.length) = (if hold = true then ((recAt w.tab (cell.tmod w.tab.length)).1, other) else (w.clock + 1, 0))) := by
  obtain ⟨m1, m2, m3, m4, m5⟩ := mayW_iff.1 hm
  have hmo : mayO' w.tab [cell] = true := by
    have : negI cell = false := by simp [negI]; omega
    simp [mayO', m2, this]
  have hw : whoB other = true := by
    refine Classical.byContradiction fun g => ?_
    simp [lockR, hmo, g] at hz
  obtain ⟨l1, l2⟩ := lock_table m2 hmo hw
  obtain ⟨p, q, r⟩ := lock_rec hmo hw hz
  have htl := tableR_len m2
  have hwb := whoB_0 hw
  have i0 := Int.tmod_nonneg (w.tab.length : Int) hc0
  have i1 := Int.tmod_lt_of_pos cell (show (0 : Int) < w.tab.length by omega)
  have hin : cell.tmod w.tab.length ∈ ofR w.tab [cell] := (ofR_mem hmo).2 ⟨cell, by simp, rfl⟩
  have hv : ∀ i : Int, 0 ≤ i → i < w.tab.length → (recAt (lockR w.tab other [cell]).1 i).1 ≤ w.clock := fun i a b => by
    have := m5 i a b
    have := l2 i a b
    omega
  have hr := r _ i0 i1
  rw [if_pos hin] at hr
  unfold otherW
  generalize (lockR w.tab other [cell]).1 = T at *
  cases hold with
  | true =>
    rw [if_pos rfl]
    exact ⟨hw, mayW_iff.2 ⟨m1, l1, m3, m4, fun i a b => hv i a (by have : (i : Int) < T.length := b; omega)⟩, p, rfl, by show w.clock ≤ _; omega, hr⟩
  | false =>
    have hv' : ∀ i : Int, 0 ≤ i → i < T.length → (recAt T i).1 < w.clock + 1 := fun i a b => by have := hv i a (by omega); omega
    obtain ⟨s1, s2, s3⟩ := stamp_ok l1 hw (v := w.clock + 1) (by omega) (by omega) hv'
    obtain ⟨t1, t2⟩ := stamp_table l1 hw (v := w.clock + 1) (by omega) (by omega) hv'
    have e := s3 _ i0 (by omega)
    rw [hr, if_pos rfl] at e
    rw [if_neg (by decide)]
    refine ⟨hw, mayW_iff.2 ⟨m1, t1, by simp only; omega, by simp only; omega, fun i a b => t2 i a (by simp only at b; rw [s2] at b; exact b)⟩, by simp only; omega, rfl, by simp only; omega, ?_⟩
    rw [if_neg (by decide)]
    exact e

def metL (l : List Rd) (n i : Int) : Bool := l.any fun x => x.1.tmod n == i
theorem late_ok {c : List St} {who other cell : Int} {w : Wl} {t : Ty} {hold : Bool} (h : TryOk c who w.clock w t) (hd : t.kind = 1) (hm : mayW w = true) (hc0 : 0 ≤ cell) (hk : w.clock ≤ 2147483644) (hne : who ≠ other)
    (hz : (lockR w.tab other [cell]).2 = 0) (hp : (begC t).phase = 0) : (allC (begC t) (otherW w other cell hold)).2 = 0 ∧ (metL t.reads w.tab.length (cell.tmod w.tab.length) = true →
      (allC (begC t) (otherW w other cell hold)).1.1.phase = 6 ∧ ((allC (begC t) (otherW w other cell hold)).1.1.err = 8 ∨ (allC (begC t) (otherW w other cell hold)).1.1.err = 7)) := by
  obtain ⟨o1, o2, o3, o4, o5, o6⟩ := other_ok (hold := hold) hm hc0 hk hz
  obtain ⟨b1, b2, b3, b4⟩ := begC_well h hd
  generalize otherW w other cell hold = v at o2 o3 o4 o5 o6 ⊢
  have ha : At0 (begC t) v := ⟨b1, hp, o2⟩
  rw [all_eq ha]
  refine ⟨by simp only, fun hmet => ?_⟩
  simp only
  obtain ⟨x, hx, he⟩ := List.any_eq_true.1 hmet
  have he' : x.1.tmod w.tab.length = cell.tmod w.tab.length := by simpa using he
  obtain ⟨r0, r1, r2⟩ := newRd_rec (h.ok.reads x hx)
  obtain ⟨_, x0, _⟩ := h.ok.reads x hx
  obtain ⟨m1, m2, m3, m4, m5⟩ := mayW_iff.1 hm
  have hv := m5 _ r0 r1
  rw [r2] at hv
  have hob := whoB_0 o1
  have hst : staleR v.tab (begC t).t.who x = true := by
    unfold staleR
    rw [o3, he', o6, b2, h.ok.who]
    cases hold with
    | true =>
      have : (other != 0) = true := by simp; omega
      have h2 : (other != who) = true := by simp; omega
      simp [this, h2]
    | false =>
      have : (w.clock + 1 != x.2.1) = true := by simp only [bne_iff_ne, ne_eq]; simp only at hv; omega
      simp [this]
  obtain ⟨p, q, _⟩ := late ha (by omega) (x := x) (by rw [b2]; exact hx) x0 hst
  refine ⟨p, ?_⟩
  rcases q with q | q
  · exact .inl q
  · exact .inr q.1

theorem ofR_same {t : List (Int × Int)} {l : Lg} (ht : tableR t = true) (h : logR l = true) {i : Int} : i ∈ ofR t (l.1.map fun x => x.1) ↔ i ∈ ofR t ((lastW l.1).map fun x => x.1) := by
  have n1 : (l.1.map fun x => x.1).any negI = false := by
    rw [List.any_eq_false]
    intro n hn
    obtain ⟨x, hx, rfl⟩ := List.mem_map.1 hn
    have := logR_nonneg h x hx
    simp [negI]; omega
  have n2 : ((lastW l.1).map fun x => x.1).any negI = false := by
    rw [List.any_eq_false]
    intro n hn
    obtain ⟨x, hx, rfl⟩ := List.mem_map.1 hn
    have := logR_nonneg h x (lastW_mem hx)
    simp [negI]; omega
  rw [ofR_mem (by simp only [mayO', ht, n1]; rfl), ofR_mem (by simp only [mayO', ht, n2]; rfl)]
  constructor
  · rintro ⟨c, hc, e⟩
    obtain ⟨x, hx, rfl⟩ := List.mem_map.1 hc
    obtain ⟨p, hp, hpe⟩ := lastW_cell hx
    exact ⟨x.1, List.mem_map.2 ⟨p, hp, hpe⟩, e⟩
  · rintro ⟨c, hc, e⟩
    obtain ⟨x, hx, rfl⟩ := List.mem_map.1 hc
    exact ⟨x.1, List.mem_map.2 ⟨x, lastW_mem hx, rfl⟩, e⟩
theorem heap1_live (c : Cm) (w : Wl) : (heap1 c w).map (fun x => x.1) = w.heap.map (fun x => x.1) := by
  unfold heap1 heapPut
  split
  · split
    · exact putsH_live _ _
    · rfl
  · rfl

structure First (c0 : Cm) (w : Wl) (z : Cm × Wl) : Prop where
  phase : z.1.phase = 5
  may : mayW z.2 = true
  len : z.2.tab.length = w.tab.length
  hlen : z.2.heap.length = w.heap.length
  free : Free z.2.tab
  recs : ∀ i : Int, 0 ≤ i → i < w.tab.length → recAt z.2.tab i = if i ∈ ofR w.tab (cellsC c0) then (w.clock + 1, 0) else recAt w.tab i
  live : z.2.heap.map (fun x => x.1) = w.heap.map (fun x => x.1)
  clock : z.2.clock ≤ w.clock + 1
  ver : c0.t.log.1 = [] ∨ z.1.version = z.2.clock
theorem first_ok {c : List St} {who : Int} {w : Wl} {t : Ty} (h : TryOk c who w.clock w t) (hd : t.kind = 1) (hm : mayW w = true) (hf : Free w.tab) (hc : w.clock ≤ 2147483643) :
    (allC (begC t) w).2 = 0 ∧ First (begC t) w (allC (begC t) w).1 := by
  obtain ⟨b1, b2, b3, b4⟩ := begC_well h hd
  have hb := begOk h hd hm
  rcases b3 with ⟨p, hl, hv⟩ | ⟨p, hl, hv⟩
  · rw [all_in p]
    have e : cellsC (begC t) = [] := by unfold cellsC; rw [b2, hl]; rfl
    have he : ofR w.tab [] = [] := by
      have := ofR_len w.tab []
      exact List.eq_nil_of_length_eq_zero (by simpa using this)
    exact ⟨rfl, ⟨p, hm, rfl, rfl, hf, fun i a b => by rw [e, he]; simp, rfl, by show w.clock ≤ _; omega, .inl (by rw [b2]; exact hl)⟩⟩
  · have ha : At0 (begC t) w := hb.at0 p
    have hco : w.clock ≠ 2147483647 := by omega
    rw [all_eq ha, comes ha hf hco hb.live (fun x hx => by
      rw [b2] at hx
      obtain ⟨r0, r1, r2⟩ := newRd_rec (h.ok.reads x hx)
      obtain ⟨_, x0, _⟩ := h.ok.reads x hx
      exact ⟨x0, by rw [r2]⟩)]
    obtain ⟨l, r⟩ := tab2_rec ha hf hco
    refine ⟨rfl, ⟨(sC_phase ha 5 (by omega)).1, sC_may ha 5 (by omega) (fun _ => hco), l, ?_, tab2_free ha hf hco, r, heap1_live _ _, by show w.clock + 1 ≤ _; omega, .inr rfl⟩⟩
    have := congrArg List.length (heap1_live (begC t) w)
    simp only [List.length_map] at this
    exact this

def metT (tab : List (Int × Int)) (l : Lg) (rs : List Rd) : Bool := (ofR tab (l.1.map fun x => x.1)).any fun i => metL rs tab.length i
theorem second_ok {a b : List St} {w : Wl} {x y : Ty} {p q : Int} {v : Wl} {c1 : Cm} (hx : TryOk a p w.clock w x) (hy : TryOk b q w.clock w y) (hdx : x.kind = 1) (hdy : y.kind = 1) (hm : mayW w = true) (hc : w.clock ≤ 2147483643)
    (hF : First (begC x) w (c1, v)) : (allC (begC y) v).2 = 0 ∧ (y.log.1 = [] → (allC (begC y) v).1.1.phase = 5 ∧ (allC (begC y) v).1.1.version = w.clock) ∧
      (y.log.1 ≠ [] → metT w.tab x.log y.reads = true → (allC (begC y) v).1.1.phase = 6 ∧ (allC (begC y) v).1.1.err = 8 ∧ (allC (begC y) v).1.2.heap = v.heap) ∧
      (y.log.1 ≠ [] → metT w.tab x.log y.reads = false → (allC (begC y) v).1.1.phase = 5 ∧ (allC (begC y) v).1.1.version = (allC (begC y) v).1.2.clock ∧ (x.log.1 = [] ∨ (allC (begC y) v).1.1.version = c1.version + 1)) := by
  obtain ⟨b1, b2, b3, b4⟩ := begC_well hy hdy
  obtain ⟨x1, x2, x3, x4⟩ := begC_well hx hdx
  obtain ⟨m1, m2, m3, m4, m5⟩ := mayW_iff.1 hm
  obtain ⟨f1, f2, f3, f4, f5, f6, f7, f8, f9⟩ := hF
  simp only at f1 f2 f3 f4 f5 f6 f7 f8 f9
  rcases b3 with ⟨ph, hl, hv⟩ | ⟨ph, hl, hv⟩
  · rw [all_in ph]
    exact ⟨rfl, fun _ => ⟨ph, by rw [hv]; exact hy.snap⟩, fun g => absurd hl g, fun g => absurd hl g⟩
  · have ha : At0 (begC y) v := ⟨b1, ph, f2⟩
    have hco : v.clock ≠ 2147483647 := by omega
    have hrd : ∀ z ∈ y.reads, 0 ≤ z.1 ∧ 0 ≤ z.1.tmod w.tab.length ∧ z.1.tmod w.tab.length < w.tab.length ∧ recAt w.tab (z.1.tmod w.tab.length) = (z.2.1, 0) := fun z hz => by
      obtain ⟨r0, r1, r2⟩ := newRd_rec (hy.ok.reads z hz)
      obtain ⟨_, x0, _⟩ := hy.ok.reads z hz
      exact ⟨x0, r0, r1, r2⟩
    have hof : ∀ i : Int, i ∈ ofR w.tab (cellsC (begC x)) ↔ i ∈ ofR w.tab (x.log.1.map fun x => x.1) := fun i => by
      unfold cellsC; rw [x2]; exact (ofR_same m2 hx.inv.log).symm
    rw [all_eq ha]
    simp only
    refine ⟨trivial, fun g => absurd g hl, fun _ hmet => ?_, fun _ hmet => ?_⟩
    · obtain ⟨i, hi, hi2⟩ := List.any_eq_true.1 hmet
      obtain ⟨z, hz, he⟩ := List.any_eq_true.1 hi2
      have he' : z.1.tmod w.tab.length = i := by simpa using he
      obtain ⟨z0, r0, r1, r2⟩ := hrd z hz
      have hver := m5 _ r0 r1
      rw [r2] at hver
      have hst : staleR v.tab (begC y).t.who z = true := by
        have := f6 _ r0 r1
        rw [if_pos ((hof _).2 (by rw [he']; exact hi))] at this
        unfold staleR
        rw [f3, this]
        have : (w.clock + 1 != z.2.1) = true := by simp only [bne_iff_ne, ne_eq]; simp only at hver; omega
        simp [this]
      obtain ⟨p1, p2, n, hn, hfn, hg⟩ := late ha hco (x := z) (by rw [b2]; exact hz) z0 hst
      refine ⟨p1, ?_, ?_⟩
      · rcases p2 with p2 | p2
        · exact p2
        · exact absurd (free_lock ha f5) p2.2
      · rw [hg]
        exact (gone_as ha (free_held f5) hn hfn _).2.1
    · have hno : ∀ z ∈ y.reads, ¬ z.1.tmod w.tab.length ∈ ofR w.tab (x.log.1.map fun x => x.1) := fun z hz hi => by
        have h1 := List.any_eq_false.1 hmet _ hi
        apply h1
        exact List.any_eq_true.2 ⟨z, hz, by simp⟩
      rw [comes ha f5 hco (fun c hc => by
          rw [b2] at hc
          rw [thereB_live f7]
          exact hy.ok.live c hc) (fun z hz => by
          rw [b2] at hz
          obtain ⟨z0, r0, r1, r2⟩ := hrd z hz
          refine ⟨z0, ?_⟩
          rw [f3, f6 _ r0 r1, if_neg (fun g => hno z hz ((hof _).1 g)), r2])]
      refine ⟨(sC_phase ha 5 (by omega)).1, rfl, ?_⟩
      rcases f9 with g | g
      · left; rw [x2] at g; exact g
      · right
        show v.clock + 1 = _
        rw [g]
end Go.Proofs.YtjhfpabldidlgaaGreat.AM

set_option linter.all false
set_option maxRecDepth 100000
set_option maxHeartbeats 8000000
namespace Go.Proofs.YtjhfpabldidlgaaGreat.AM
open Go Go.RowKit

theorem metL_snoc (l : List Rd) (n i : Int) (k : Nat) (x : Rd) (h : l[k]? = some x) : metL (l.take (k + 1)) n i = (metL (l.take k) n i || (x.1.tmod n == i)) := by
  unfold metL
  rw [List.take_succ, h, List.any_append]
  simp

theorem c_CommitLate (c : List St) (who other : Int) (w : Wl) (n : Int) (hold : Bool) (hcl : c.length ≤ 9223372036854775807) (hn0 : 0 ≤ n) (hn1 : n ≤ 255) :
    CSpec Tryz.prog 8 [.vec (c.map dS), .int .i64 who, .int .i64 other, dWl w, .int .u8 n, .bool hold] (.bool true) := by
  have hsw := c_law12_small w
  have hcr := c_commit_Right w
  have hwn : IntKind.i64.wrap n = n := by rw [wrap_in (by omega)]
  refine CSpec.of_awp envOf_ok hmix Tryz.func8 rfl (fun args w => Tryz.call8 args w) (by simp [Tryz.f8]) ?_
  simp only [Tryz.f8]
  simp (maxSteps := 2000000) -implicitDefEqProofs only [zz, zE, evop, ev, tget, V.isUndef, initT, V.cells, ↓reduceIte, reduceCtorEq, Nat.reduceEqDiff, Nat.reduceAdd]
  unfold dWl
  unfold dWl at hsw hcr
  simp (maxSteps := 2000000) -implicitDefEqProofs only [zz, evop, ev, ofVal, tget, tput, ok, V.isUndef, Ch.on, calleeOf, withArgs, hput, ↓reduceIte, reduceCtorEq, Nat.reduceLT]
  refine acall_flat' (c_law08_Small c hcl) rfl ?_
  try simp (maxSteps := 2000000) -implicitDefEqProofs only [zz, zE, evop, ev, ofVal, tget, tput, ok, V.isUndef, intBin, guardOf, Ch.on, calleeOf, withArgs, told, hget, ↓reduceIte, Nat.reduceLT, Nat.reduceEqDiff, Nat.reduceAdd, Nat.reduceLeDiff, nilTest]
  by_cases hs : smallC c < 0
  · simp (maxSteps := 2000000) -implicitDefEqProofs only [zz, ↓reduceIte, hs]
    refine acall_flat' (c_awake12) rfl ?_
    try simp (maxSteps := 2000000) -implicitDefEqProofs only [zz, evop, ev, tget, tput, ok, V.isUndef, Ch.on, xport, resOf, resV, resVs, ↓reduceIte, Nat.reduceLT]
  simp (maxSteps := 2000000) -implicitDefEqProofs only [zz, ↓reduceIte, hs]
  refine acall_flat' (hsw) rfl ?_
  try simp (maxSteps := 2000000) -implicitDefEqProofs only [zz, zE, evop, ev, ofVal, tget, tput, ok, V.isUndef, guardOf, Ch.on, calleeOf, withArgs, told, hget, ↓reduceIte, Nat.reduceLT, Nat.reduceEqDiff, Nat.reduceAdd, Nat.reduceLeDiff]
  cases hw : smallW w with
  | false =>
    simp (maxSteps := 2000000) -implicitDefEqProofs only [zz, ↓reduceIte]
    refine acall_flat' (c_awake12) rfl ?_
    try simp (maxSteps := 2000000) -implicitDefEqProofs only [zz, evop, ev, tget, tput, ok, V.isUndef, Ch.on, xport, resOf, resV, resVs, ↓reduceIte, Nat.reduceLT]
  | true =>
  simp (maxSteps := 2000000) -implicitDefEqProofs only [zz, ↓reduceIte]
  refine acall_flat' (hcr) rfl ?_
  try simp (maxSteps := 2000000) -implicitDefEqProofs only [zz, zE, evop, ev, ofVal, tget, tput, ok, V.isUndef, intBin, guardOf, Ch.on, calleeOf, withArgs, told, hget, structAt, Blk.width, ↓reduceIte, reduceCtorEq, Nat.reduceLT, Nat.reduceEqDiff, Nat.reduceAdd, Nat.reduceLeDiff, nilTest]
  cases hm : mayW w with
  | false =>
    simp (maxSteps := 2000000) -implicitDefEqProofs only [zz, ↓reduceIte]
    refine acall_flat' (c_awake12) rfl ?_
    try simp (maxSteps := 2000000) -implicitDefEqProofs only [zz, evop, ev, tget, tput, ok, V.isUndef, Ch.on, xport, resOf, resV, resVs, ↓reduceIte, Nat.reduceLT]
  | true =>
  by_cases heq : who = other
  · have e : (who == other) = true := by simpa using heq
    simp (maxSteps := 2000000) -implicitDefEqProofs only [zz, ↓reduceIte, e]
    refine acall_flat' (c_awake12) rfl ?_
    try simp (maxSteps := 2000000) -implicitDefEqProofs only [zz, evop, ev, tget, tput, ok, V.isUndef, Ch.on, xport, resOf, resV, resVs, ↓reduceIte, Nat.reduceLT]
  have e : (who == other) = false := by simpa using heq
  by_cases hck : w.clock ≥ 2147483645
  · simp (maxSteps := 2000000) -implicitDefEqProofs only [zz, ↓reduceIte, e, hck]
    refine acall_flat' (c_awake12) rfl ?_
    try simp (maxSteps := 2000000) -implicitDefEqProofs only [zz, evop, ev, tget, tput, ok, V.isUndef, Ch.on, xport, resOf, resV, resVs, ↓reduceIte, Nat.reduceLT]
  obtain ⟨s1, s2⟩ := smallC_0 hs
  obtain ⟨s3, s4⟩ := smallW_t hw
  have htl : ∀ s ∈ c, s.t.length ≤ 1000000 := fun s h => by have := s2 s h; omega
  have ht := c_tried c who w.clock w (by omega) htl (by omega)
  have hb := c_commit_Begin (tryT c who w.clock w).1
  have hlk := c_Lock w.tab other [n.tmod 64] (by simp)
  have hn64 : 0 ≤ n.tmod 64 := Int.tmod_nonneg _ hn0
  have good : (tryT c who w.clock w).2 = true → doneB (tryT c who w.clock w).1 = true → (lockR w.tab other [n.tmod 64]).2 = 0 → (begC (tryT c who w.clock w).1).phase ≠ 5 → CmOk (begC (tryT c who w.clock w).1) ∧ (∀ h, (allC (begC (tryT c who w.clock w).1) (otherW w other (n.tmod 64) h)).2 = 0 ∧ (metL (tryT c who w.clock w).1.reads w.tab.length ((n.tmod 64).tmod w.tab.length) = true →
      (allC (begC (tryT c who w.clock w).1) (otherW w other (n.tmod 64) h)).1.1.phase = 6 ∧ ((allC (begC (tryT c who w.clock w).1) (otherW w other (n.tmod 64) h)).1.1.err = 8 ∨ (allC (begC (tryT c who w.clock w).1) (otherW w other (n.tmod 64) h)).1.1.err = 7))) ∧ (tryT c who w.clock w).1.reads.length ≤ 1000000 := fun a b d f => by
    have h1 := tryT_ok a
    have b' : (tryT c who w.clock w).1.kind = 1 := by simpa [doneB] using b
    obtain ⟨y1, y2, y3, y4⟩ := begC_well h1 b'
    have hp : (begC (tryT c who w.clock w).1).phase = 0 := by
      rcases y3 with y | y
      · exact absurd y.1 f
      · exact y.1
    refine ⟨y1.toCmOk, fun h => late_ok h1 b' hm hn64 (by omega) heq d hp, ?_⟩
    have := h1.inv.rlen
    have := h1.inv.pcl
    omega
  generalize (tryT c who w.clock w).2 = b1 at ht good
  generalize hD : doneB (tryT c who w.clock w).1 = b2 at hb good
  generalize begC (tryT c who w.clock w).1 = c0 at hb good
  generalize (tryT c who w.clock w).1 = t at ht hb good
  clear hD
  have hvt : otherW w other (n.tmod 64) true = ⟨w.heap, (lockR w.tab other [n.tmod 64]).1, w.clock⟩ := rfl
  have hvf : otherW w other (n.tmod 64) false = ⟨w.heap, (stampR (lockR w.tab other [n.tmod 64]).1 other (w.clock + 1)).1, w.clock + 1⟩ := rfl
  have hstm := c_Stamp (lockR w.tab other [n.tmod 64]).1 other (w.clock + 1)
  rw [show (lockR w.tab other [n.tmod 64]).1.length = w.tab.length from lockR_len ..] at hstm
  replace hstm := hstm (by omega)
  have hlk2 : (lockR w.tab other [n.tmod 64]).2 = 0 ∨ (lockR w.tab other [n.tmod 64]).2 ≠ 0 := by omega
  generalize (lockR w.tab other [n.tmod 64]).2 = le at hlk hlk2 good
  generalize (lockR w.tab other [n.tmod 64]).1 = T1 at hlk hstm hvt hvf
  simp only [List.map_cons, List.map_nil] at hlk
  unfold dT tyC at ht hb
  unfold dCm cmC at hb
  unfold dWl at ht
  have e00 : ((0 : Int) != 0) = false := rfl
  have e10 : ((1 : Int) != 0) = true := rfl
  have f00 : ((0 : Int) == 0) = true := rfl
  simp (maxSteps := 2000000) -implicitDefEqProofs only [zz, ↓reduceIte, e, hck]
  refine acall_ice' (ht) ?_
  try simp (maxSteps := 2000000) -implicitDefEqProofs only [zz, zE, evop, ev, tget, tput, ok, V.isUndef, Ch.on, calleeOf, withArgs, tids, tidss, hget, hput, freeze, V.cells, V.one, splice, ↓reduceIte, Nat.reduceLT, Nat.reduceEqDiff, Nat.reduceAdd, Nat.reduceLeDiff]
  refine acall_ice' (hb) ?_
  try simp (maxSteps := 2000000) -implicitDefEqProofs only [zz, zE, evop, ev, ofVal, tget, tput, ok, V.isUndef, intBin, Ch.on, calleeOf, withArgs, tids, tidss, hget, hput, freeze, V.cells, D.cells, V.one, V.toD, structAt, sliceOf, partsD, Blk.width, splice, ↓reduceIte, reduceCtorEq, Nat.reduceLT, Nat.reduceEqDiff, Nat.reduceAdd, Nat.reduceMul, Nat.reduceLeDiff, nilTest]
  simp (maxSteps := 2000000) -implicitDefEqProofs only [hwn]
  refine ⟨by decide, ?_⟩
  first | refine acall_flat' (hlk) rfl ?_ | refine dcall_flat' (hlk) rfl ?_ | refine acall_ice' (hlk) ?_ | refine dcall_still' (hlk) rfl ?_
  try simp (maxSteps := 2000000) -implicitDefEqProofs only [zz, zE, evop, ev, ofVal, tget, tput, ok, V.isUndef, intBin, guardOf, Ch.on, calleeOf, withArgs, told, tids, tidss, hget, hput, Blk.ice, freeze, V.cells, V.one, structAt, sliceOf, partsV, Blk.width, lenOf, splice, ↓reduceIte, reduceCtorEq, Nat.reduceLT, Nat.reduceEqDiff, Nat.reduceAdd, Nat.reduceLeDiff, nilTest]
  cases b1 with
  | false =>
    simp (maxSteps := 2000000) -implicitDefEqProofs only [zz, ↓reduceIte]
    refine acall_flat' (c_awake12) rfl ?_
    try simp (maxSteps := 2000000) -implicitDefEqProofs only [zz, evop, ev, tget, tput, ok, V.isUndef, Ch.on, xport, resOf, resV, resVs, ↓reduceIte, Nat.reduceLT]
  | true =>
  cases b2 with
  | false =>
    simp (maxSteps := 2000000) -implicitDefEqProofs only [zz, ↓reduceIte, e10]
    refine acall_flat' (c_awake12) rfl ?_
    try simp (maxSteps := 2000000) -implicitDefEqProofs only [zz, evop, ev, tget, tput, ok, V.isUndef, Ch.on, xport, resOf, resV, resVs, ↓reduceIte, Nat.reduceLT]
  | true =>
  rcases hlk2 with hz | hz
  case inr =>
    have hz' : (le != 0) = true := by simpa using hz
    simp (maxSteps := 2000000) -implicitDefEqProofs only [zz, ↓reduceIte, hz']
    refine acall_flat' (c_awake12) rfl ?_
    try simp (maxSteps := 2000000) -implicitDefEqProofs only [zz, evop, ev, tget, tput, ok, V.isUndef, Ch.on, xport, resOf, resV, resVs, ↓reduceIte, Nat.reduceLT]
  subst hz
  by_cases hp5 : c0.phase = 5
  · have hp5' : (c0.phase == 5) = true := by simpa using hp5
    simp (maxSteps := 2000000) -implicitDefEqProofs only [zz, ↓reduceIte, hp5']
    refine acall_flat' (c_awake12) rfl ?_
    try simp (maxSteps := 2000000) -implicitDefEqProofs only [zz, evop, ev, tget, tput, ok, V.isUndef, Ch.on, xport, resOf, resV, resVs, ↓reduceIte, Nat.reduceLT]
  have hp5' : (c0.phase == 5) = false := by simpa using hp5
  obtain ⟨g1, g2, g3⟩ := good rfl rfl rfl hp5
  have hwc : IntKind.i64.wrap (w.clock + 1) = w.clock + 1 := by
    have := (mayW_iff.1 hm).2.2
    rw [wrap_in (by omega)]
  have htl1 := tableR_len (mayW_iff.1 hm).2.1
  have hne : (w.tab.length : Int) ≠ 0 := by omega
  cases hold with
  | true =>
    have hmt := g2 true
    have hall := c_commit_All c0 (otherW w other (n.tmod 64) true) g1
    rw [hmt.1] at hall
    have hbw : bW (otherW w other (n.tmod 64) true) = bW (otherW w other (n.tmod 64) true) := rfl
    rw (occs := .pos [2]) [hvt] at hbw
    generalize otherW w other (n.tmod 64) true = v at hmt hall hbw
    generalize (allC c0 v).1 = y at hmt hall
    unfold dCm cmC dWl at hall
    simp (maxSteps := 2000000) -implicitDefEqProofs only [zz, ↓reduceIte, hp5']
    refine wloop_count t.reads.length (fun i => [(116, .d (.int .i64 i)), (115, .d (.int .i64 t.reads.length)), (114, .d (.vec (t.reads.map dRd))), (20, .d (.bool (metL (t.reads.take i) w.tab.length ((n.tmod 64).tmod w.tab.length)))), (4, .d (.int .u8 n)), (9, .ptr 0 0 0), (15, .ptr 2 0 0), (19, .ptr 3 0 0)]) (fun i => [bW w, bT t, bC c0, bW v]) (fun _ => True) trivial ?_ (fun i hi _ => ?_) (fun _ => ?_)
    · rw [hbw]
      refine Weak.pick [0, 1, 2, 4] (by decide) (by simp) rfl (fun q hq => ?_) (fun i hi => ?_)
      · simp only [List.mem_cons, List.not_mem_nil, or_false] at hq
        rcases hq with rfl | rfl | rfl | rfl | rfl | rfl | rfl | rfl <;> exact .same _
      · match i, hi with
        | 0, _ => exact .box false [.d (.vec (w.heap.map dC)), .d (.vec (w.tab.map dW)), .d (.int .i64 w.clock)] [.d (.vec (w.heap.map dC)), .d (.vec (w.tab.map dW)), .d (.int .i64 w.clock)] rfl rfl (renL_d _ _ [.vec (w.heap.map dC), .vec (w.tab.map dW), .int .i64 w.clock])
        | 1, _ => exact .box false ((tyC t).map V.d) ((tyC t).map V.d) rfl rfl (renL_d _ _ _)
        | 2, _ => exact .box false ((cmC c0).map V.d) ((cmC c0).map V.d) rfl rfl (renL_d _ _ _)
        | 3, _ => exact .box false _ _ rfl rfl (renL_d _ _ [.vec (w.heap.map dC), .vec (T1.map dW), .int .i64 w.clock])
        | i + 4, hi => exact absurd hi (by simp)
    · have hx : t.reads[i]? = some t.reads[i] := List.getElem?_eq_getElem hi
      have h' : ((i : Int) < (t.reads.length : Int)) := by omega
      have hw1 : IntKind.i64.wrap ((i : Int) + 1) = ((i + 1 : Nat) : Int) := by rw [wrap_in (by omega)]; omega
      have hsn := metL_snoc t.reads w.tab.length ((n.tmod 64).tmod w.tab.length) i _ hx
      generalize t.reads[i] = x at hx hsn
      cases hM : metL (t.reads.take i) w.tab.length ((n.tmod 64).tmod w.tab.length) with
      | true =>
        rw [hM, Bool.true_or] at hsn
        simp (maxSteps := 2000000) -implicitDefEqProofs only [zz, zE, evop, ev, tget, tput, ok, intBin, Ch.on, told, hget, hput, V.cells, D.cells, V.one, loadD, splice, ↓reduceIte, Nat.reduceLT, Nat.reduceEqDiff, Nat.reduceAdd, Nat.reduceLeDiff, nilTest, dRd, h', List.getElem?_map, hx, Option.map_some, Int.natCast_nonneg]
        refine wdraw_plan [⟨[], true, [], [], false⟩, ⟨[0], true, [], [], false⟩, ⟨[0, 1], false, [124, 125, 126, 128, 129, 130, 131, 132, 133, 134], [], false⟩, ⟨[0, 1, 2], false, [124, 125, 126, 128, 129, 130, 131, 132, 133, 134], [], false⟩, ⟨[0, 1], false, [122, 123, 128, 129, 130, 131, 132, 133, 134], [2, 3], false⟩, ⟨[0, 1, 4], false, [122, 123, 128, 129, 130, 131, 132, 133, 134], [2, 3], false⟩, ⟨[0, 1, 4, 5], false, [122, 123, 128, 129, 130, 131, 132, 133, 134], [2, 3], false⟩, ⟨[0, 1, 2, 3, 4, 5, 6], false, [128, 129, 130, 131, 132, 133, 134], [], false⟩, ⟨[0, 1], false, [122, 123, 124, 125, 126, 127, 131, 132, 133], [2, 3, 4, 5, 6, 7], false⟩, ⟨[0, 1, 8], false, [122, 123, 124, 125, 126, 127, 131, 132, 133], [2, 3, 4, 5, 6, 7], false⟩, ⟨[0, 1, 8, 9], false, [122, 123, 124, 125, 126, 127, 131, 132, 133], [2, 3, 4, 5, 6, 7], false⟩, ⟨[0, 1], false, [122, 123, 124, 125, 126, 127, 128, 129, 130], [2, 3, 4, 5, 6, 7, 8, 9, 10], false⟩, ⟨[0, 1, 11], false, [122, 123, 124, 125, 126, 127, 128, 129, 130], [2, 3, 4, 5, 6, 7, 8, 9, 10], false⟩, ⟨[0, 1, 11, 12], false, [122, 123, 124, 125, 126, 127, 128, 129, 130], [2, 3, 4, 5, 6, 7, 8, 9, 10], false⟩, ⟨[0, 1, 8, 9, 10, 11, 12, 13], false, [122, 123, 124, 125, 126, 127], [2, 3, 4, 5, 6, 7], false⟩, ⟨[0, 1, 2, 3, 4, 5, 6, 7, 8, 9, 10, 11, 12, 13, 14], false, [], [], false⟩, ⟨[0, 1, 2, 3, 4, 5, 6, 7, 8, 9, 10, 11, 12, 13, 14, 15], true, [], [], false⟩, ⟨[0, 1, 2, 3, 4, 5, 6, 7, 8, 9, 10, 11, 12, 13, 14, 15, 16], true, [], [], false⟩] (by decide) ?_
        simp (maxSteps := 2000000) -implicitDefEqProofs only [zz, evop, ev, ofVal, tget, tput, ok, V.isUndef, intBin, guardOf, Ch.on, hput, ↓reduceIte, Nat.reduceLT, Nat.reduceEqDiff, Nat.reduceAdd, Nat.reduceSub, nilTest, hw1]
        rw [hsn]
        exact Weak.trims 4 rfl (by simp [tget, V.lower, hw1]) (by simp [bT, bC, bW, Blk.lower, lowerL, V.lower])
      | false =>
        rw [hM, Bool.false_or] at hsn
        simp (maxSteps := 2000000) -implicitDefEqProofs only [zz, zE, evop, ev, tget, tput, ok, intBin, Ch.on, told, hget, hput, V.cells, D.cells, V.one, loadD, splice, ↓reduceIte, Nat.reduceLT, Nat.reduceEqDiff, Nat.reduceAdd, Nat.reduceLeDiff, nilTest, dRd, h', List.getElem?_map, hx, Option.map_some, Int.natCast_nonneg]
        refine wdraw_plan [⟨[], true, [], [], false⟩, ⟨[0], true, [], [], false⟩, ⟨[0, 1], false, [124, 125, 126, 128, 129, 130, 131, 132, 133, 134], [], false⟩, ⟨[0, 1, 2], false, [124, 125, 126, 128, 129, 130, 131, 132, 133, 134], [], false⟩, ⟨[0, 1], false, [122, 123, 128, 129, 130, 131, 132, 133, 134], [2, 3], false⟩, ⟨[0, 1, 4], false, [122, 123, 128, 129, 130, 131, 132, 133, 134], [2, 3], false⟩, ⟨[0, 1, 4, 5], false, [122, 123, 128, 129, 130, 131, 132, 133, 134], [2, 3], false⟩, ⟨[0, 1, 2, 3, 4, 5, 6], false, [128, 129, 130, 131, 132, 133, 134], [], false⟩, ⟨[0, 1], false, [122, 123, 124, 125, 126, 127, 131, 132, 133], [2, 3, 4, 5, 6, 7], false⟩, ⟨[0, 1, 8], false, [122, 123, 124, 125, 126, 127, 131, 132, 133], [2, 3, 4, 5, 6, 7], false⟩, ⟨[0, 1, 8, 9], false, [122, 123, 124, 125, 126, 127, 131, 132, 133], [2, 3, 4, 5, 6, 7], false⟩, ⟨[0, 1], false, [122, 123, 124, 125, 126, 127, 128, 129, 130], [2, 3, 4, 5, 6, 7, 8, 9, 10], false⟩, ⟨[0, 1, 11], false, [122, 123, 124, 125, 126, 127, 128, 129, 130], [2, 3, 4, 5, 6, 7, 8, 9, 10], false⟩, ⟨[0, 1, 11, 12], false, [122, 123, 124, 125, 126, 127, 128, 129, 130], [2, 3, 4, 5, 6, 7, 8, 9, 10], false⟩, ⟨[0, 1, 8, 9, 10, 11, 12, 13], false, [122, 123, 124, 125, 126, 127], [2, 3, 4, 5, 6, 7], false⟩, ⟨[0, 1, 2, 3, 4, 5, 6, 7, 8, 9, 10, 11, 12, 13, 14], false, [], [], false⟩, ⟨[0, 1, 2, 3, 4, 5, 6, 7, 8, 9, 10, 11, 12, 13, 14, 15], true, [], [], false⟩, ⟨[0, 1, 2, 3, 4, 5, 6, 7, 8, 9, 10, 11, 12, 13, 14, 15, 16], true, [], [], false⟩] (by decide) ?_
        simp (maxSteps := 2000000) -implicitDefEqProofs only [zz, zE, evop, ev, ofVal, tget, tput, ok, V.isUndef, intBin, guardOf, Ch.on, hget, hput, V.cells, D.cells, V.isAgg, loadD, structAt, sliceOf, Blk.width, lenOf, ↓reduceIte, reduceCtorEq, Nat.reduceLT, Nat.reduceEqDiff, Nat.reduceAdd, Nat.reduceSub, Nat.reduceLeDiff, nilTest, bW, hwn, hw1]
        refine ⟨hne, by decide, hne, ?_⟩
        rw [hsn]
        exact Weak.trims 4 rfl (by simp [tget, V.lower, hw1]) (by simp [bT, bC, bW, Blk.lower, lowerL, V.lower])
    · have h' : ¬ ((t.reads.length : Int) < (t.reads.length : Int)) := by omega
      rw [List.take_length]
      simp (maxSteps := 2000000) -implicitDefEqProofs only [zz, zE, evop, ev, tget, tput, ok, intBin, Ch.on, calleeOf, withArgs, told, hget, ↓reduceIte, Nat.reduceLT, Nat.reduceEqDiff, Nat.reduceAdd, Nat.reduceLeDiff, nilTest, h', bC, bW]
      first | refine acall_flat' (hall) rfl ?_ | refine dcall_flat' (hall) rfl ?_ | refine acall_ice' (hall) ?_ | refine dcall_still' (hall) rfl ?_
      try simp (maxSteps := 2000000) -implicitDefEqProofs only [zz, zE, evop, ev, ofVal, tget, tput, ok, V.isUndef, intBin, guardOf, Ch.on, calleeOf, withArgs, xport, tids, tidss, hget, hput, freeze, V.cells, V.one, structAt, Blk.width, splice, resOf, resV, resVs, ↓reduceIte, reduceCtorEq, Nat.reduceLT, Nat.reduceEqDiff, Nat.reduceAdd, Nat.reduceLeDiff, nilTest]
      cases hM : metL t.reads w.tab.length ((n.tmod 64).tmod w.tab.length) with
      | false =>
        simp (maxSteps := 2000000) -implicitDefEqProofs only [zz, ↓reduceIte]
        refine acall_flat' (c_awake12) rfl ?_
        try simp (maxSteps := 2000000) -implicitDefEqProofs only [zz, evop, ev, tget, tput, ok, V.isUndef, Ch.on, xport, resOf, resV, resVs, ↓reduceIte, Nat.reduceLT, Nat.reduceEqDiff]
      | true =>
        obtain ⟨m1, m2⟩ := hmt.2 hM
        have m1' : (y.1.phase == 6) = true := by simpa using m1
        rcases m2 with m | m
        · have m' : (y.1.err == 8) = true := by simpa using m
          simp (maxSteps := 2000000) -implicitDefEqProofs only [zz, ↓reduceIte, m1', m']
          refine acall_flat' (c_awake12) rfl ?_
          try simp (maxSteps := 2000000) -implicitDefEqProofs only [zz, evop, ev, tget, tput, ok, V.isUndef, Ch.on, xport, resOf, resV, resVs, ↓reduceIte, Nat.reduceLT, Nat.reduceEqDiff]
        · have m8 : (y.1.err == 8) = false := by simp [m]
          have m' : (y.1.err == 7) = true := by simpa using m
          simp (maxSteps := 2000000) -implicitDefEqProofs only [zz, ↓reduceIte, m1', m8, m']
          refine acall_flat' (c_awake12) rfl ?_
          try simp (maxSteps := 2000000) -implicitDefEqProofs only [zz, evop, ev, tget, tput, ok, V.isUndef, Ch.on, xport, resOf, resV, resVs, ↓reduceIte, Nat.reduceLT, Nat.reduceEqDiff]
  | false =>
    have hmt := g2 false
    have hall := c_commit_All c0 (otherW w other (n.tmod 64) false) g1
    rw [hmt.1] at hall
    have hbw : bW (otherW w other (n.tmod 64) false) = bW (otherW w other (n.tmod 64) false) := rfl
    rw (occs := .pos [2]) [hvf] at hbw
    generalize otherW w other (n.tmod 64) false = v at hmt hall hbw
    generalize (allC c0 v).1 = y at hmt hall
    unfold dCm cmC dWl at hall
    simp (maxSteps := 2000000) -implicitDefEqProofs only [zz, ↓reduceIte, hp5']
    simp (maxSteps := 2000000) -implicitDefEqProofs only [hwc]
    first | refine acall_flat' (hstm) rfl ?_ | refine dcall_flat' (hstm) rfl ?_ | refine acall_ice' (hstm) ?_ | refine dcall_still' (hstm) rfl ?_
    try simp (maxSteps := 2000000) -implicitDefEqProofs only [zz, zE, evop, ev, ofVal, tget, tput, ok, V.isUndef, intBin, Ch.on, tids, tidss, hget, hput, freeze, V.cells, V.one, structAt, sliceOf, Blk.width, lenOf, splice, ↓reduceIte, reduceCtorEq, Nat.reduceLT, Nat.reduceEqDiff, Nat.reduceAdd, Nat.reduceLeDiff, nilTest]
    try simp (maxSteps := 2000000) -implicitDefEqProofs only [hwc]
    refine wloop_count t.reads.length (fun i => [(116, .d (.int .i64 i)), (115, .d (.int .i64 t.reads.length)), (114, .d (.vec (t.reads.map dRd))), (20, .d (.bool (metL (t.reads.take i) w.tab.length ((n.tmod 64).tmod w.tab.length)))), (4, .d (.int .u8 n)), (9, .ptr 0 0 0), (15, .ptr 2 0 0), (19, .ptr 3 0 0)]) (fun i => [bW w, bT t, bC c0, bW v]) (fun _ => True) trivial ?_ (fun i hi _ => ?_) (fun _ => ?_)
    · rw [hbw]
      refine Weak.pick [0, 1, 2, 4] (by decide) (by simp) rfl (fun q hq => ?_) (fun i hi => ?_)
      · simp only [List.mem_cons, List.not_mem_nil, or_false] at hq
        rcases hq with rfl | rfl | rfl | rfl | rfl | rfl | rfl | rfl <;> exact .same _
      · match i, hi with
        | 0, _ => exact .box false [.d (.vec (w.heap.map dC)), .d (.vec (w.tab.map dW)), .d (.int .i64 w.clock)] [.d (.vec (w.heap.map dC)), .d (.vec (w.tab.map dW)), .d (.int .i64 w.clock)] rfl rfl (renL_d _ _ [.vec (w.heap.map dC), .vec (w.tab.map dW), .int .i64 w.clock])
        | 1, _ => exact .box false ((tyC t).map V.d) ((tyC t).map V.d) rfl rfl (renL_d _ _ _)
        | 2, _ => exact .box false ((cmC c0).map V.d) ((cmC c0).map V.d) rfl rfl (renL_d _ _ _)
        | 3, _ => exact .box false _ _ rfl rfl (renL_d _ _ [.vec (w.heap.map dC), .vec ((stampR T1 other (w.clock + 1)).1.map dW), .int .i64 (w.clock + 1)])
        | i + 4, hi => exact absurd hi (by simp)
    · have hx : t.reads[i]? = some t.reads[i] := List.getElem?_eq_getElem hi
      have h' : ((i : Int) < (t.reads.length : Int)) := by omega
      have hw1 : IntKind.i64.wrap ((i : Int) + 1) = ((i + 1 : Nat) : Int) := by rw [wrap_in (by omega)]; omega
      have hsn := metL_snoc t.reads w.tab.length ((n.tmod 64).tmod w.tab.length) i _ hx
      generalize t.reads[i] = x at hx hsn
      cases hM : metL (t.reads.take i) w.tab.length ((n.tmod 64).tmod w.tab.length) with
      | true =>
        rw [hM, Bool.true_or] at hsn
        simp (maxSteps := 2000000) -implicitDefEqProofs only [zz, zE, evop, ev, tget, tput, ok, intBin, Ch.on, told, hget, hput, V.cells, D.cells, V.one, loadD, splice, ↓reduceIte, Nat.reduceLT, Nat.reduceEqDiff, Nat.reduceAdd, Nat.reduceLeDiff, nilTest, dRd, h', List.getElem?_map, hx, Option.map_some, Int.natCast_nonneg]
        refine wdraw_plan [⟨[], true, [], [], false⟩, ⟨[0], true, [], [], false⟩, ⟨[0, 1], false, [124, 125, 126, 128, 129, 130, 131, 132, 133, 134], [], false⟩, ⟨[0, 1, 2], false, [124, 125, 126, 128, 129, 130, 131, 132, 133, 134], [], false⟩, ⟨[0, 1], false, [122, 123, 128, 129, 130, 131, 132, 133, 134], [2, 3], false⟩, ⟨[0, 1, 4], false, [122, 123, 128, 129, 130, 131, 132, 133, 134], [2, 3], false⟩, ⟨[0, 1, 4, 5], false, [122, 123, 128, 129, 130, 131, 132, 133, 134], [2, 3], false⟩, ⟨[0, 1, 2, 3, 4, 5, 6], false, [128, 129, 130, 131, 132, 133, 134], [], false⟩, ⟨[0, 1], false, [122, 123, 124, 125, 126, 127, 131, 132, 133], [2, 3, 4, 5, 6, 7], false⟩, ⟨[0, 1, 8], false, [122, 123, 124, 125, 126, 127, 131, 132, 133], [2, 3, 4, 5, 6, 7], false⟩, ⟨[0, 1, 8, 9], false, [122, 123, 124, 125, 126, 127, 131, 132, 133], [2, 3, 4, 5, 6, 7], false⟩, ⟨[0, 1], false, [122, 123, 124, 125, 126, 127, 128, 129, 130], [2, 3, 4, 5, 6, 7, 8, 9, 10], false⟩, ⟨[0, 1, 11], false, [122, 123, 124, 125, 126, 127, 128, 129, 130], [2, 3, 4, 5, 6, 7, 8, 9, 10], false⟩, ⟨[0, 1, 11, 12], false, [122, 123, 124, 125, 126, 127, 128, 129, 130], [2, 3, 4, 5, 6, 7, 8, 9, 10], false⟩, ⟨[0, 1, 8, 9, 10, 11, 12, 13], false, [122, 123, 124, 125, 126, 127], [2, 3, 4, 5, 6, 7], false⟩, ⟨[0, 1, 2, 3, 4, 5, 6, 7, 8, 9, 10, 11, 12, 13, 14], false, [], [], false⟩, ⟨[0, 1, 2, 3, 4, 5, 6, 7, 8, 9, 10, 11, 12, 13, 14, 15], true, [], [], false⟩, ⟨[0, 1, 2, 3, 4, 5, 6, 7, 8, 9, 10, 11, 12, 13, 14, 15, 16], true, [], [], false⟩] (by decide) ?_
        simp (maxSteps := 2000000) -implicitDefEqProofs only [zz, evop, ev, ofVal, tget, tput, ok, V.isUndef, intBin, guardOf, Ch.on, hput, ↓reduceIte, Nat.reduceLT, Nat.reduceEqDiff, Nat.reduceAdd, Nat.reduceSub, nilTest, hw1]
        rw [hsn]
        exact Weak.trims 4 rfl (by simp [tget, V.lower, hw1]) (by simp [bT, bC, bW, Blk.lower, lowerL, V.lower])
      | false =>
        rw [hM, Bool.false_or] at hsn
        simp (maxSteps := 2000000) -implicitDefEqProofs only [zz, zE, evop, ev, tget, tput, ok, intBin, Ch.on, told, hget, hput, V.cells, D.cells, V.one, loadD, splice, ↓reduceIte, Nat.reduceLT, Nat.reduceEqDiff, Nat.reduceAdd, Nat.reduceLeDiff, nilTest, dRd, h', List.getElem?_map, hx, Option.map_some, Int.natCast_nonneg]
        refine wdraw_plan [⟨[], true, [], [], false⟩, ⟨[0], true, [], [], false⟩, ⟨[0, 1], false, [124, 125, 126, 128, 129, 130, 131, 132, 133, 134], [], false⟩, ⟨[0, 1, 2], false, [124, 125, 126, 128, 129, 130, 131, 132, 133, 134], [], false⟩, ⟨[0, 1], false, [122, 123, 128, 129, 130, 131, 132, 133, 134], [2, 3], false⟩, ⟨[0, 1, 4], false, [122, 123, 128, 129, 130, 131, 132, 133, 134], [2, 3], false⟩, ⟨[0, 1, 4, 5], false, [122, 123, 128, 129, 130, 131, 132, 133, 134], [2, 3], false⟩, ⟨[0, 1, 2, 3, 4, 5, 6], false, [128, 129, 130, 131, 132, 133, 134], [], false⟩, ⟨[0, 1], false, [122, 123, 124, 125, 126, 127, 131, 132, 133], [2, 3, 4, 5, 6, 7], false⟩, ⟨[0, 1, 8], false, [122, 123, 124, 125, 126, 127, 131, 132, 133], [2, 3, 4, 5, 6, 7], false⟩, ⟨[0, 1, 8, 9], false, [122, 123, 124, 125, 126, 127, 131, 132, 133], [2, 3, 4, 5, 6, 7], false⟩, ⟨[0, 1], false, [122, 123, 124, 125, 126, 127, 128, 129, 130], [2, 3, 4, 5, 6, 7, 8, 9, 10], false⟩, ⟨[0, 1, 11], false, [122, 123, 124, 125, 126, 127, 128, 129, 130], [2, 3, 4, 5, 6, 7, 8, 9, 10], false⟩, ⟨[0, 1, 11, 12], false, [122, 123, 124, 125, 126, 127, 128, 129, 130], [2, 3, 4, 5, 6, 7, 8, 9, 10], false⟩, ⟨[0, 1, 8, 9, 10, 11, 12, 13], false, [122, 123, 124, 125, 126, 127], [2, 3, 4, 5, 6, 7], false⟩, ⟨[0, 1, 2, 3, 4, 5, 6, 7, 8, 9, 10, 11, 12, 13, 14], false, [], [], false⟩, ⟨[0, 1, 2, 3, 4, 5, 6, 7, 8, 9, 10, 11, 12, 13, 14, 15], true, [], [], false⟩, ⟨[0, 1, 2, 3, 4, 5, 6, 7, 8, 9, 10, 11, 12, 13, 14, 15, 16], true, [], [], false⟩] (by decide) ?_
        simp (maxSteps := 2000000) -implicitDefEqProofs only [zz, zE, evop, ev, ofVal, tget, tput, ok, V.isUndef, intBin, guardOf, Ch.on, hget, hput, V.cells, D.cells, V.isAgg, loadD, structAt, sliceOf, Blk.width, lenOf, ↓reduceIte, reduceCtorEq, Nat.reduceLT, Nat.reduceEqDiff, Nat.reduceAdd, Nat.reduceSub, Nat.reduceLeDiff, nilTest, bW, hwn, hw1]
        refine ⟨hne, by decide, hne, ?_⟩
        rw [hsn]
        exact Weak.trims 4 rfl (by simp [tget, V.lower, hw1]) (by simp [bT, bC, bW, Blk.lower, lowerL, V.lower])
    · have h' : ¬ ((t.reads.length : Int) < (t.reads.length : Int)) := by omega
      rw [List.take_length]
      simp (maxSteps := 2000000) -implicitDefEqProofs only [zz, zE, evop, ev, tget, tput, ok, intBin, Ch.on, calleeOf, withArgs, told, hget, ↓reduceIte, Nat.reduceLT, Nat.reduceEqDiff, Nat.reduceAdd, Nat.reduceLeDiff, nilTest, h', bC, bW]
      first | refine acall_flat' (hall) rfl ?_ | refine dcall_flat' (hall) rfl ?_ | refine acall_ice' (hall) ?_ | refine dcall_still' (hall) rfl ?_
      try simp (maxSteps := 2000000) -implicitDefEqProofs only [zz, zE, evop, ev, ofVal, tget, tput, ok, V.isUndef, intBin, guardOf, Ch.on, calleeOf, withArgs, xport, tids, tidss, hget, hput, freeze, V.cells, V.one, structAt, Blk.width, splice, resOf, resV, resVs, ↓reduceIte, reduceCtorEq, Nat.reduceLT, Nat.reduceEqDiff, Nat.reduceAdd, Nat.reduceLeDiff, nilTest]
      cases hM : metL t.reads w.tab.length ((n.tmod 64).tmod w.tab.length) with
      | false =>
        simp (maxSteps := 2000000) -implicitDefEqProofs only [zz, ↓reduceIte]
        refine acall_flat' (c_awake12) rfl ?_
        try simp (maxSteps := 2000000) -implicitDefEqProofs only [zz, evop, ev, tget, tput, ok, V.isUndef, Ch.on, xport, resOf, resV, resVs, ↓reduceIte, Nat.reduceLT, Nat.reduceEqDiff]
      | true =>
        obtain ⟨m1, m2⟩ := hmt.2 hM
        have m1' : (y.1.phase == 6) = true := by simpa using m1
        rcases m2 with m | m
        · have m' : (y.1.err == 8) = true := by simpa using m
          simp (maxSteps := 2000000) -implicitDefEqProofs only [zz, ↓reduceIte, m1', m']
          refine acall_flat' (c_awake12) rfl ?_
          try simp (maxSteps := 2000000) -implicitDefEqProofs only [zz, evop, ev, tget, tput, ok, V.isUndef, Ch.on, xport, resOf, resV, resVs, ↓reduceIte, Nat.reduceLT, Nat.reduceEqDiff]
        · have m8 : (y.1.err == 8) = false := by simp [m]
          have m' : (y.1.err == 7) = true := by simpa using m
          simp (maxSteps := 2000000) -implicitDefEqProofs only [zz, ↓reduceIte, m1', m8, m']
          refine acall_flat' (c_awake12) rfl ?_
          try simp (maxSteps := 2000000) -implicitDefEqProofs only [zz, evop, ev, tget, tput, ok, V.isUndef, Ch.on, xport, resOf, resV, resVs, ↓reduceIte, Nat.reduceLT, Nat.reduceEqDiff]
end Go.Proofs.YtjhfpabldidlgaaGreat.AM

set_option linter.all false
set_option maxRecDepth 100000
set_option maxHeartbeats 8000000
namespace Go.Proofs.YtjhfpabldidlgaaGreat.AM
open Go Go.RowKit

structure TwoOk (w : Wl) (x y : Ty) (c0 d0 : Cm) (z1 z2 : Cm × Wl) (e1 e2 : Int) : Prop where
  ok1 : CmOk c0
  ok2 : CmOk d0
  r1 : e1 = 0
  r2 : e2 = 0
  ph : z1.1.phase = 5
  a : y.log.1 = [] → z2.1.phase = 5 ∧ z2.1.version = w.clock
  b : y.log.1 ≠ [] → metT w.tab x.log y.reads = true → z2.1.phase = 6 ∧ z2.1.err = 8 ∧ z2.2.heap = z1.2.heap
  c : y.log.1 ≠ [] → metT w.tab x.log y.reads = false → z2.1.phase = 5 ∧ z2.1.version = z2.2.clock ∧ (x.log.1 = [] ∨ z2.1.version = z1.1.version + 1)
  wr : x.log.1 ≠ [] → IntKind.i64.wrap (z1.1.version + 1) = z1.1.version + 1
  hl : z1.2.heap.length ≤ 1000000
  rl : y.reads.length ≤ 1000000
  ll : x.log.1.length ≤ 1000000

theorem two_ok {a b : List St} {w : Wl} (hm : mayW w = true) (hf : Free w.tab) (hc : w.clock ≤ 2147483643) (hh : w.heap.length ≤ 80)
    (h1 : (tryT a 1 w.clock w).2 = true) (h2 : (tryT b 2 w.clock w).2 = true) (d1 : doneB (tryT a 1 w.clock w).1 = true) (d2 : doneB (tryT b 2 w.clock w).1 = true) :
    TwoOk w (tryT a 1 w.clock w).1 (tryT b 2 w.clock w).1 (begC (tryT a 1 w.clock w).1) (begC (tryT b 2 w.clock w).1) (allC (begC (tryT a 1 w.clock w).1) w).1 (allC (begC (tryT b 2 w.clock w).1) (allC (begC (tryT a 1 w.clock w).1) w).1.2).1
      (allC (begC (tryT a 1 w.clock w).1) w).2 (allC (begC (tryT b 2 w.clock w).1) (allC (begC (tryT a 1 w.clock w).1) w).1.2).2 := by
  have hx := tryT_ok h1
  have hy := tryT_ok h2
  have k1 : (tryT a 1 w.clock w).1.kind = 1 := by simpa [doneB] using d1
  have k2 : (tryT b 2 w.clock w).1.kind = 1 := by simpa [doneB] using d2
  obtain ⟨x1, x2, x3, x4⟩ := begC_well hx k1
  obtain ⟨y1, y2, y3, y4⟩ := begC_well hy k2
  obtain ⟨f1, f2⟩ := first_ok hx k1 hm hf hc
  obtain ⟨s1, s2, s3, s4⟩ := second_ok (c1 := (allC (begC (tryT a 1 w.clock w).1) w).1.1) hx hy k1 k2 hm hc f2
  refine ⟨x1.toCmOk, y1.toCmOk, f1, s1, f2.phase, s2, s3, s4, fun g => ?_, by have := f2.hlen; omega, ?_, ?_⟩
  · have := f2.ver
    rw [x2] at this
    rcases this with t | t
    · exact absurd t g
    · have h3 := (mayW_iff.1 f2.may).2.2.1
      have h4 := f2.clock
      rw [t, wrap_in (by omega)]
  · have := hy.inv.rlen
    have := hy.inv.pcl
    have := hy.code.len
    omega
  · have := hx.inv.toInvT.lens hx.code
    omega

theorem free_of {t : List (Int × Int)} (h : ∀ j : Nat, j < t.length → (recAt t j).2 = 0) : Free t := fun i a b => by
  have := h i.toNat (by omega)
  have e : ((i.toNat : Nat) : Int) = i := by omega
  rwa [e] at this

theorem c_CommitTwice (a b : List St) (w : Wl) (hal : a.length ≤ 9223372036854775807) (hbl : b.length ≤ 9223372036854775807) :
    CSpec Tryz.prog 9 [.vec (a.map dS), .vec (b.map dS), dWl w] (.bool true) := by
  have hsw := c_law12_small w
  have hcr := c_commit_Right w
  refine CSpec.of_awp envOf_ok hmix Tryz.func9 rfl (fun args w => Tryz.call9 args w) (by simp [Tryz.f9]) ?_
  simp only [Tryz.f9]
  simp (maxSteps := 2000000) -implicitDefEqProofs only [zz, zE, evop, ev, tget, V.isUndef, initT, V.cells, ↓reduceIte, reduceCtorEq, Nat.reduceEqDiff, Nat.reduceAdd]
  unfold dWl
  unfold dWl at hsw hcr
  simp (maxSteps := 2000000) -implicitDefEqProofs only [zz, evop, ev, ofVal, tget, tput, ok, V.isUndef, Ch.on, calleeOf, withArgs, hput, ↓reduceIte, reduceCtorEq, Nat.reduceLT]
  refine acall_flat' (c_law08_Small a hal) rfl ?_
  try simp (maxSteps := 2000000) -implicitDefEqProofs only [zz, evop, ev, ofVal, tget, tput, ok, V.isUndef, intBin, guardOf, Ch.on, calleeOf, withArgs, told, ↓reduceIte, reduceCtorEq, Nat.reduceLT, Nat.reduceEqDiff, nilTest]
  by_cases hs : smallC a < 0
  · simp (maxSteps := 2000000) -implicitDefEqProofs only [zz, ↓reduceIte, hs]
    refine acall_flat' (c_awake12) rfl ?_
    try simp (maxSteps := 2000000) -implicitDefEqProofs only [zz, evop, ev, tget, tput, ok, V.isUndef, Ch.on, xport, resOf, resV, resVs, ↓reduceIte, Nat.reduceLT]
  simp (maxSteps := 2000000) -implicitDefEqProofs only [zz, ↓reduceIte, hs]
  refine acall_flat' (c_law08_Small b hbl) rfl ?_
  try simp (maxSteps := 2000000) -implicitDefEqProofs only [zz, zE, evop, ev, ofVal, tget, tput, ok, V.isUndef, intBin, guardOf, Ch.on, calleeOf, withArgs, told, hget, ↓reduceIte, Nat.reduceLT, Nat.reduceEqDiff, Nat.reduceAdd, Nat.reduceLeDiff, nilTest]
  by_cases hs' : smallC b < 0
  · simp (maxSteps := 2000000) -implicitDefEqProofs only [zz, ↓reduceIte, hs']
    refine acall_flat' (c_awake12) rfl ?_
    try simp (maxSteps := 2000000) -implicitDefEqProofs only [zz, evop, ev, tget, tput, ok, V.isUndef, Ch.on, xport, resOf, resV, resVs, ↓reduceIte, Nat.reduceLT]
  simp (maxSteps := 2000000) -implicitDefEqProofs only [zz, ↓reduceIte, hs']
  refine acall_flat' (hsw) rfl ?_
  try simp (maxSteps := 2000000) -implicitDefEqProofs only [zz, zE, evop, ev, ofVal, tget, tput, ok, V.isUndef, guardOf, Ch.on, calleeOf, withArgs, told, hget, ↓reduceIte, Nat.reduceLT, Nat.reduceEqDiff, Nat.reduceAdd, Nat.reduceLeDiff]
  cases hw : smallW w with
  | false =>
    simp (maxSteps := 2000000) -implicitDefEqProofs only [zz, ↓reduceIte]
    refine acall_flat' (c_awake12) rfl ?_
    try simp (maxSteps := 2000000) -implicitDefEqProofs only [zz, evop, ev, tget, tput, ok, V.isUndef, Ch.on, xport, resOf, resV, resVs, ↓reduceIte, Nat.reduceLT]
  | true =>
  simp (maxSteps := 2000000) -implicitDefEqProofs only [zz, ↓reduceIte]
  refine acall_flat' (hcr) rfl ?_
  try simp (maxSteps := 2000000) -implicitDefEqProofs only [zz, zE, evop, ev, ofVal, tget, tput, ok, V.isUndef, intBin, guardOf, Ch.on, calleeOf, withArgs, told, hget, structAt, sliceOf, Blk.width, lenOf, ↓reduceIte, reduceCtorEq, Nat.reduceLT, Nat.reduceEqDiff, Nat.reduceAdd, nilTest]
  cases hm : mayW w with
  | false =>
    simp (maxSteps := 2000000) -implicitDefEqProofs only [zz, ↓reduceIte]
    refine acall_flat' (c_awake12) rfl ?_
    try simp (maxSteps := 2000000) -implicitDefEqProofs only [zz, evop, ev, tget, tput, ok, V.isUndef, Ch.on, xport, resOf, resV, resVs, ↓reduceIte, Nat.reduceLT]
  | true =>
  by_cases hck : w.clock > 2147483643
  · simp (maxSteps := 2000000) -implicitDefEqProofs only [zz, ↓reduceIte, hck]
    refine acall_flat' (c_awake12) rfl ?_
    try simp (maxSteps := 2000000) -implicitDefEqProofs only [zz, evop, ev, tget, tput, ok, V.isUndef, Ch.on, xport, resOf, resV, resVs, ↓reduceIte, Nat.reduceLT]
  have htl1 := tableR_len (mayW_iff.1 hm).2.1
  have hne : (w.tab.length : Int) ≠ 0 := by omega
  simp (maxSteps := 2000000) -implicitDefEqProofs only [zz, ↓reduceIte, hck]
  refine wloop_count w.tab.length (fun i => [(56, .d (.int .i64 i)), (55, .d (.int .i64 w.tab.length)), (54, .d (.vec (w.tab.map dW))), (0, .d (.vec (a.map dS))), (1, .d (.vec (b.map dS))), (5, .ptr 0 0 0)]) (fun _ => [bW w]) (fun i => ∀ j : Nat, j < i → (recAt w.tab j).2 = 0) (fun j hj => by omega) (Weak.trims 1 rfl (by simp [tget, V.lower]) (by simp [bW, Blk.lower, lowerL, V.lower])) (fun i hi hI => ?_) (fun hI => ?_)
  · have hx : w.tab[i]? = some (recAt w.tab i) := recAt_get hi
    have h' : ((i : Int) < (w.tab.length : Int)) := by omega
    have hw1 : IntKind.i64.wrap ((i : Int) + 1) = ((i + 1 : Nat) : Int) := by rw [wrap_in (by omega)]; omega
    by_cases h0 : (recAt w.tab i).2 = 0
    · have e0 : ((recAt w.tab i).2 != 0) = false := by simpa using h0
      simp (maxSteps := 2000000) -implicitDefEqProofs only [zz, zE, evop, ev, ofVal, tget, tput, ok, V.isUndef, intBin, Ch.on, told, hget, hput, V.cells, D.cells, V.one, loadD, structAt, Blk.width, splice, ↓reduceIte, reduceCtorEq, Nat.reduceLT, Nat.reduceEqDiff, Nat.reduceAdd, Nat.reduceLeDiff, nilTest, dW, h', List.getElem?_map, hx, Option.map_some, Int.natCast_nonneg, e0, hw1]
      refine ⟨fun j hj => ?_, Weak.trims 1 rfl (by simp [tget, V.lower, hw1]) (by simp [bW, Blk.lower, lowerL, V.lower])⟩
      by_cases e : j = i
      · subst e; exact h0
      · exact hI j (by omega)
    · have e0 : ((recAt w.tab i).2 != 0) = true := by simpa using h0
      simp (maxSteps := 2000000) -implicitDefEqProofs only [zz, zE, evop, ev, ofVal, tget, tput, ok, V.isUndef, intBin, Ch.on, calleeOf, withArgs, told, hget, hput, V.cells, D.cells, V.one, loadD, structAt, Blk.width, splice, ↓reduceIte, reduceCtorEq, Nat.reduceLT, Nat.reduceEqDiff, Nat.reduceAdd, Nat.reduceLeDiff, nilTest, dW, h', List.getElem?_map, hx, Option.map_some, Int.natCast_nonneg, e0]
      refine acall_flat' (c_awake12) rfl ?_
      try simp (maxSteps := 2000000) -implicitDefEqProofs only [zz, evop, ev, tget, tput, ok, V.isUndef, Ch.on, xport, resOf, resV, resVs, ↓reduceIte, Nat.reduceLT]
  have h' : ¬ ((w.tab.length : Int) < (w.tab.length : Int)) := by omega
  have hfree : Free w.tab := free_of hI
  obtain ⟨s1, s2⟩ := smallC_0 hs
  obtain ⟨s1', s2'⟩ := smallC_0 hs'
  obtain ⟨s3, s4⟩ := smallW_t hw
  have htl : ∀ s ∈ a, s.t.length ≤ 1000000 := fun s h => by have := s2 s h; omega
  have htl' : ∀ s ∈ b, s.t.length ≤ 1000000 := fun s h => by have := s2' s h; omega
  have ht := c_tried a 1 w.clock w (by omega) htl (by omega)
  have ht' := c_tried b 2 w.clock w (by omega) htl' (by omega)
  have hb := c_commit_Begin (tryT a 1 w.clock w).1
  have hb' := c_commit_Begin (tryT b 2 w.clock w).1
  have good := two_ok (a := a) (b := b) hm hfree (by omega) s3
  have hA := c_commit_All (begC (tryT a 1 w.clock w).1) w
  have hB := c_commit_All (begC (tryT b 2 w.clock w).1) (allC (begC (tryT a 1 w.clock w).1) w).1.2
  generalize (allC (begC (tryT b 2 w.clock w).1) (allC (begC (tryT a 1 w.clock w).1) w).1.2).2 = e2 at good hB
  generalize (allC (begC (tryT b 2 w.clock w).1) (allC (begC (tryT a 1 w.clock w).1) w).1.2).1 = z2 at good hB
  generalize (allC (begC (tryT a 1 w.clock w).1) w).2 = e1 at good hA
  generalize (allC (begC (tryT a 1 w.clock w).1) w).1 = z1 at good hA hB
  generalize (tryT a 1 w.clock w).2 = b1 at ht good
  generalize (tryT b 2 w.clock w).2 = b3 at ht' good
  generalize hD : doneB (tryT a 1 w.clock w).1 = b2 at hb good
  generalize hD' : doneB (tryT b 2 w.clock w).1 = b4 at hb' good
  generalize begC (tryT a 1 w.clock w).1 = c0 at hb good hA
  generalize begC (tryT b 2 w.clock w).1 = d0 at hb' good hB
  generalize (tryT a 1 w.clock w).1 = x at ht hb good
  generalize (tryT b 2 w.clock w).1 = y at ht' hb' good
  clear hD hD'
  unfold dT tyC at ht hb ht' hb'
  unfold dCm cmC at hb hb' hA hB
  unfold dWl at ht ht' hA hB
  have e00 : ((0 : Int) != 0) = false := rfl
  have e10 : ((1 : Int) != 0) = true := rfl
  have f00 : ((0 : Int) == 0) = true := rfl
  simp (maxSteps := 2000000) -implicitDefEqProofs only [zz, zE, evop, ev, ofVal, tget, tput, ok, V.isUndef, intBin, Ch.on, calleeOf, withArgs, told, hget, structAt, Blk.width, ↓reduceIte, reduceCtorEq, Nat.reduceLT, Nat.reduceEqDiff, Nat.reduceAdd, Nat.reduceLeDiff, nilTest, h', bW]
  refine acall_ice' (ht) ?_
  try simp (maxSteps := 2000000) -implicitDefEqProofs only [zz, zE, evop, ev, ofVal, tget, tput, ok, V.isUndef, Ch.on, calleeOf, withArgs, tids, tidss, hget, hput, freeze, V.cells, V.one, structAt, Blk.width, splice, ↓reduceIte, reduceCtorEq, Nat.reduceLT, Nat.reduceEqDiff, Nat.reduceAdd, Nat.reduceLeDiff]
  refine acall_ice' (ht') ?_
  try simp (maxSteps := 2000000) -implicitDefEqProofs only [zz, zE, evop, ev, tget, tput, ok, V.isUndef, Ch.on, calleeOf, withArgs, tids, tidss, hget, hput, freeze, V.cells, V.one, splice, ↓reduceIte, Nat.reduceLT, Nat.reduceEqDiff, Nat.reduceAdd, Nat.reduceLeDiff]
  refine acall_ice' (hb) ?_
  try simp (maxSteps := 2000000) -implicitDefEqProofs only [zz, zE, evop, ev, tget, tput, ok, V.isUndef, Ch.on, calleeOf, withArgs, tids, tidss, hget, hput, freeze, V.cells, V.one, splice, ↓reduceIte, Nat.reduceLT, Nat.reduceEqDiff, Nat.reduceAdd, Nat.reduceLeDiff]
  refine acall_ice' (hb') ?_
  try simp (maxSteps := 2000000) -implicitDefEqProofs only [zz, zE, evop, ev, ofVal, tget, tput, ok, V.isUndef, intBin, guardOf, Ch.on, calleeOf, withArgs, told, tids, tidss, hget, hput, freeze, V.cells, V.one, splice, ↓reduceIte, reduceCtorEq, Nat.reduceLT, Nat.reduceEqDiff, Nat.reduceAdd, Nat.reduceLeDiff, nilTest]
  cases b1 with
  | false =>
    simp (maxSteps := 2000000) -implicitDefEqProofs only [zz, ↓reduceIte]
    refine acall_flat' (c_awake12) rfl ?_
    try simp (maxSteps := 2000000) -implicitDefEqProofs only [zz, evop, ev, tget, tput, ok, V.isUndef, Ch.on, xport, resOf, resV, resVs, ↓reduceIte, Nat.reduceLT]
  | true =>
  cases b3 with
  | false =>
    simp (maxSteps := 2000000) -implicitDefEqProofs only [zz, ↓reduceIte]
    refine acall_flat' (c_awake12) rfl ?_
    try simp (maxSteps := 2000000) -implicitDefEqProofs only [zz, evop, ev, tget, tput, ok, V.isUndef, Ch.on, xport, resOf, resV, resVs, ↓reduceIte, Nat.reduceLT]
  | true =>
  cases b2 with
  | false =>
    simp (maxSteps := 2000000) -implicitDefEqProofs only [zz, ↓reduceIte, e10]
    refine acall_flat' (c_awake12) rfl ?_
    try simp (maxSteps := 2000000) -implicitDefEqProofs only [zz, evop, ev, tget, tput, ok, V.isUndef, Ch.on, xport, resOf, resV, resVs, ↓reduceIte, Nat.reduceLT]
  | true =>
  cases b4 with
  | false =>
    simp (maxSteps := 2000000) -implicitDefEqProofs only [zz, ↓reduceIte, e10]
    refine acall_flat' (c_awake12) rfl ?_
    try simp (maxSteps := 2000000) -implicitDefEqProofs only [zz, evop, ev, tget, tput, ok, V.isUndef, Ch.on, xport, resOf, resV, resVs, ↓reduceIte, Nat.reduceLT]
  | true =>
  obtain ⟨g1, g2, r1, r2, g3, g4, g5, g6, g7, g8, g9, g10⟩ := good rfl rfl rfl rfl
  subst r1 r2
  replace hA := hA g1
  replace hB := hB g2
  have p5 : (z1.1.phase != 5) = false := by simpa using g3
  simp (maxSteps := 2000000) -implicitDefEqProofs only [zz, ↓reduceIte]
  first | refine acall_flat' (hA) rfl ?_ | refine dcall_flat' (hA) rfl ?_ | refine acall_ice' (hA) ?_ | refine dcall_still' (hA) rfl ?_
  try simp (maxSteps := 2000000) -implicitDefEqProofs only [zz, zE, evop, ev, tget, tput, ok, V.isUndef, Ch.on, calleeOf, withArgs, tids, tidss, hget, hput, freeze, V.cells, V.one, splice, ↓reduceIte, Nat.reduceLT, Nat.reduceEqDiff, Nat.reduceAdd, Nat.reduceLeDiff]
  try skip
  first | refine acall_flat' (hB) rfl ?_ | refine dcall_flat' (hB) rfl ?_ | refine acall_ice' (hB) ?_ | refine dcall_still' (hB) rfl ?_
  try simp (maxSteps := 2000000) -implicitDefEqProofs only [zz, zE, evop, ev, ofVal, tget, tput, ok, V.isUndef, intBin, guardOf, Ch.on, told, xport, tids, tidss, hget, hput, freeze, V.cells, V.one, structAt, sliceOf, Blk.width, lenOf, splice, resOf, resV, resVs, ↓reduceIte, reduceCtorEq, Nat.reduceLT, Nat.reduceEqDiff, Nat.reduceAdd, Nat.reduceLeDiff, nilTest]
  try simp (maxSteps := 2000000) -implicitDefEqProofs only [zz, ↓reduceIte, p5]
  refine wloop_count x.log.1.length (fun i => [(135, .d (.int .i64 i)), (134, .d (.int .i64 x.log.1.length)), (133, .d (.vec (x.log.1.map dW))), (21, .own 7 0 i), (5, .ptr 0 0 0), (9, .ptr 1 0 0), (11, .ptr 2 0 0), (13, .ptr 3 0 0), (15, .ptr 4 0 0), (17, .ptr 5 0 0), (19, .ptr 6 0 0)]) (fun i => [bW w, bT x, bT y, bC z1.1, bC z2.1, bW z1.2, bW z2.2, .dat false 1 (((x.log.1.take i).map fun x => x.1).map dI)]) (fun _ => True) trivial ?_ (fun i hi _ => ?_) (fun _ => ?_)
  · refine Weak.pick [0, 1, 2, 3, 4, 5, 6, 20] (by decide) (by simp) rfl (fun q hq => ?_) (fun i hi => ?_)
    · simp only [List.mem_cons, List.not_mem_nil, or_false] at hq
      rcases hq with rfl | rfl | rfl | rfl | rfl | rfl | rfl | rfl | rfl | rfl | rfl
      · exact .same _
      · exact .same _
      · exact .same _
      · exact .nils 7 1 rfl
      · exact .same _
      · exact .same _
      · exact .same _
      · exact .same _
      · exact .same _
      · exact .same _
      · exact .same _
    · match i, hi with
      | 0, _ => exact .box false ((wlC w).map V.d) ((wlC w).map V.d) rfl rfl (renL_d _ _ _)
      | 1, _ => exact .box false ((tyC x).map V.d) ((tyC x).map V.d) rfl rfl (renL_d _ _ _)
      | 2, _ => exact .box false ((tyC y).map V.d) ((tyC y).map V.d) rfl rfl (renL_d _ _ _)
      | 3, _ => exact .box false ((cmC z1.1).map V.d) ((cmC z1.1).map V.d) rfl rfl (renL_d _ _ _)
      | 4, _ => exact .box false ((cmC z2.1).map V.d) ((cmC z2.1).map V.d) rfl rfl (renL_d _ _ _)
      | 5, _ => exact .box false ((wlC z1.2).map V.d) ((wlC z1.2).map V.d) rfl rfl (renL_d _ _ _)
      | 6, _ => exact .box false ((wlC z2.2).map V.d) ((wlC z2.2).map V.d) rfl rfl (renL_d _ _ _)
      | 7, _ => exact .virt 1 rfl rfl
      | i + 8, hi => exact absurd hi (by simp)
  · have hx : x.log.1[i]? = some x.log.1[i] := List.getElem?_eq_getElem hi
    have h' : ((i : Int) < (x.log.1.length : Int)) := by omega
    have hw1 : IntKind.i64.wrap ((i : Int) + 1) = ((i + 1 : Nat) : Int) := by rw [wrap_in (by omega)]; omega
    have hT : (x.log.1.take (i + 1)).map (fun x => x.1) = (x.log.1.take i).map (fun x => x.1) ++ [x.log.1[i].1] := by rw [List.take_succ, hx, List.map_append]; rfl
    have e6 : List.take i (((x.log.1.take i).map fun x => x.1).map dI) = ((x.log.1.take i).map fun x => x.1).map dI := by rw [List.take_of_length_le]; simp; omega
    simp (maxSteps := 2000000) -implicitDefEqProofs only [zz, zE, evop, ev, ofVal, tget, tput, ok, V.isUndef, intBin, Ch.on, told, hget, hput, V.cells, D.cells, V.one, V.toD, loadD, structAt, sliceOf, partsD, Blk.width, elems, splice, ↓reduceIte, reduceCtorEq, Nat.reduceLT, Nat.reduceEqDiff, Nat.reduceAdd, Nat.reduceMul, Nat.reduceLeDiff, nilTest, dW, h', List.getElem?_map, hx, Option.map_some, Int.natCast_nonneg, hw1]
    refine ⟨⟨by omega, okEl_I [x.log.1[i].1]⟩, ?_⟩
    rw [hT, e6, List.map_append]
    refine Weak.pick [0, 1, 2, 3, 4, 5, 6, 10] (by decide) (by simp) rfl (fun q hq => ?_) (fun i hi => ?_)
    · simp only [List.mem_cons, List.not_mem_nil, or_false] at hq
      rcases hq with rfl | rfl | rfl | rfl | rfl | rfl | rfl | rfl | rfl | rfl | rfl <;> exact .same _
    · match i, hi with
      | 0, _ => exact .box false ((wlC w).map V.d) ((wlC w).map V.d) rfl rfl (renL_d _ _ _)
      | 1, _ => exact .box false ((tyC x).map V.d) ((tyC x).map V.d) rfl rfl (renL_d _ _ _)
      | 2, _ => exact .box false ((tyC y).map V.d) ((tyC y).map V.d) rfl rfl (renL_d _ _ _)
      | 3, _ => exact .box false ((cmC z1.1).map V.d) ((cmC z1.1).map V.d) rfl rfl (renL_d _ _ _)
      | 4, _ => exact .box false ((cmC z2.1).map V.d) ((cmC z2.1).map V.d) rfl rfl (renL_d _ _ _)
      | 5, _ => exact .box false ((wlC z1.2).map V.d) ((wlC z1.2).map V.d) rfl rfl (renL_d _ _ _)
      | 6, _ => exact .box false ((wlC z2.2).map V.d) ((wlC z2.2).map V.d) rfl rfl (renL_d _ _ _)
      | 7, _ => exact .dat _ _ _ rfl rfl
      | i + 8, hi => exact absurd hi (by simp)
  have h' : ¬ ((x.log.1.length : Int) < (x.log.1.length : Int)) := by omega
  have hof := c_Of w.tab (x.log.1.map fun x => x.1) (by simp; omega)
  have hol := ofR_len w.tab (x.log.1.map fun x => x.1)
  rw [List.length_map] at hol
  have hmT : metT w.tab x.log y.reads = (ofR w.tab (x.log.1.map fun x => x.1)).any fun i => metL y.reads w.tab.length i := rfl
  generalize ofR w.tab (x.log.1.map fun x => x.1) = L at hof hmT hol
  have hlt : List.take x.log.1.length ((x.log.1.map fun x => x.1).map dI) = (x.log.1.map fun x => x.1).map dI := by rw [List.take_of_length_le]; simp
  rw [← hlt] at hof
  rw [List.take_length]
  simp (maxSteps := 2000000) -implicitDefEqProofs only [zz, zE, evop, ev, ofVal, tget, tput, ok, V.isUndef, intBin, Ch.on, calleeOf, withArgs, told, hget, structAt, Blk.width, ↓reduceIte, reduceCtorEq, Nat.reduceLT, Nat.reduceEqDiff, Nat.reduceAdd, nilTest, h', bW]
  first | refine acall_flat' (hof) rfl ?_ | refine dcall_flat' (hof) rfl ?_ | refine acall_ice' (hof) ?_ | refine dcall_still' (hof) rfl ?_
  try simp (maxSteps := 2000000) -implicitDefEqProofs only [zz, zE, evop, ev, ofVal, tget, tput, ok, V.isUndef, Ch.on, tids, tidss, hget, hput, Blk.ice, freeze, sliceOf, lenOf, ↓reduceIte, Nat.reduceLT]
  try skip
  refine wloop_count L.length (fun k => [(150, .d (.int .i64 k)), (149, .d (.int .i64 L.length)), (148, .d (.vec (L.map dI))), (24, .d (.bool ((L.take k).any fun i => metL y.reads w.tab.length i))), (5, .ptr 0 0 0), (9, .ptr 1 0 0), (11, .ptr 2 0 0), (13, .ptr 3 0 0), (15, .ptr 4 0 0), (17, .ptr 5 0 0), (19, .ptr 6 0 0)]) (fun _ => [bW w, bT x, bT y, bC z1.1, bC z2.1, bW z1.2, bW z2.2]) (fun _ => True) trivial ?_ (fun k hk _ => ?_) (fun _ => ?_)
  · exact Weak.trims 7 rfl (by simp [tget, V.lower]) (by simp [bT, bC, bW, Blk.lower, lowerL, V.lower])
  · have hx : L[k]? = some L[k] := List.getElem?_eq_getElem hk
    have h' : ((k : Int) < (L.length : Int)) := by omega
    have hw1 : IntKind.i64.wrap ((k : Int) + 1) = ((k + 1 : Nat) : Int) := by rw [wrap_in (by omega)]; omega
    have hsn : (L.take (k + 1)).any (fun i => metL y.reads w.tab.length i) = ((L.take k).any (fun i => metL y.reads w.tab.length i) || metL y.reads w.tab.length L[k]) := by rw [List.take_succ, hx, List.any_append]; simp
    rw [hsn]
    generalize L[k] = p at hx
    generalize (L.take k).any (fun i => metL y.reads w.tab.length i) = M
    simp (maxSteps := 2000000) -implicitDefEqProofs only [zz, zE, evop, ev, ofVal, tget, tput, ok, V.isUndef, intBin, Ch.on, told, hget, D.cells, loadD, structAt, sliceOf, Blk.width, lenOf, ↓reduceIte, reduceCtorEq, Nat.reduceLT, Nat.reduceEqDiff, Nat.reduceAdd, nilTest, dI, h', List.getElem?_map, hx, Option.map_some, Int.natCast_nonneg, bT]
    refine wloop_count y.reads.length (fun j => [(157, .d (.int .i64 j)), (156, .d (.int .i64 y.reads.length)), (155, .d (.vec (y.reads.map dRd))), (26, .d (.int .i64 p)), (24, .d (.bool (M || metL (y.reads.take j) w.tab.length p))), (150, .d (.int .i64 k)), (149, .d (.int .i64 L.length)), (148, .d (.vec (L.map dI))), (5, .ptr 0 0 0), (9, .ptr 1 0 0), (11, .ptr 2 0 0), (13, .ptr 3 0 0), (15, .ptr 4 0 0), (17, .ptr 5 0 0), (19, .ptr 6 0 0)]) (fun _ => [bW w, bT x, bT y, bC z1.1, bC z2.1, bW z1.2, bW z2.2]) (fun _ => True) trivial ?_ (fun j hj _ => ?_) (fun _ => ?_)
    · exact Weak.trims 7 rfl (by simp [tget, V.lower, metL]) (by simp [bT, bC, bW, Blk.lower, lowerL, V.lower])
    · have hx : y.reads[j]? = some y.reads[j] := List.getElem?_eq_getElem hj
      have h' : ((j : Int) < (y.reads.length : Int)) := by omega
      have hw1 : IntKind.i64.wrap ((j : Int) + 1) = ((j + 1 : Nat) : Int) := by rw [wrap_in (by omega)]; omega
      have hsn := metL_snoc y.reads w.tab.length p j _ hx
      generalize y.reads[j] = r at hx hsn
      rw [hsn, ← Bool.or_assoc]
      cases hM : (M || metL (y.reads.take j) w.tab.length p) with
      | true =>
        simp (maxSteps := 2000000) -implicitDefEqProofs only [zz, zE, evop, ev, ofVal, tget, tput, ok, V.isUndef, intBin, guardOf, Ch.on, told, hget, hput, V.cells, D.cells, V.one, loadD, splice, ↓reduceIte, Nat.reduceLT, Nat.reduceEqDiff, Nat.reduceAdd, Nat.reduceLeDiff, nilTest, dRd, h', List.getElem?_map, hx, Option.map_some, Int.natCast_nonneg, hw1]
        exact Weak.trims 7 rfl (by simp [tget, V.lower, hw1]) (by simp [bT, bC, bW, Blk.lower, lowerL, V.lower])
      | false =>
        simp (maxSteps := 2000000) -implicitDefEqProofs only [zz, zE, evop, ev, ofVal, tget, tput, ok, V.isUndef, intBin, guardOf, Ch.on, told, hget, hput, V.cells, D.cells, V.one, loadD, structAt, sliceOf, Blk.width, lenOf, splice, ↓reduceIte, reduceCtorEq, Nat.reduceLT, Nat.reduceEqDiff, Nat.reduceAdd, Nat.reduceLeDiff, nilTest, dRd, h', List.getElem?_map, hx, Option.map_some, Int.natCast_nonneg, hw1, bW]
        refine ⟨hne, ?_⟩
        exact Weak.trims 7 rfl (by simp [tget, V.lower, hw1]) (by simp [bT, bC, bW, Blk.lower, lowerL, V.lower])
    · have h' : ¬ ((y.reads.length : Int) < (y.reads.length : Int)) := by omega
      rw [List.take_length]
      simp (maxSteps := 2000000) -implicitDefEqProofs only [zz, evop, ev, ofVal, tget, tput, ok, V.isUndef, intBin, Ch.on, told, ↓reduceIte, Nat.reduceLT, Nat.reduceEqDiff, nilTest, h', hw1]
      exact Weak.trims 7 rfl (by simp [tget, V.lower, hw1]) (by simp [bT, bC, bW, Blk.lower, lowerL, V.lower])
  have h' : ¬ ((L.length : Int) < (L.length : Int)) := by omega
  rw [List.take_length, ← hmT]
  by_cases hy0 : y.log.1 = []
  · have hl0 : ((y.log.1.length : Int) == 0) = true := by rw [hy0]; rfl
    obtain ⟨q1, q2⟩ := g4 hy0
    have q1' : (z2.1.phase == 5) = true := by simpa using q1
    have q2' : (z2.1.version == w.clock) = true := by simpa using q2
    simp (maxSteps := 2000000) -implicitDefEqProofs only [zz, zE, evop, ev, ofVal, tget, tput, ok, V.isUndef, intBin, guardOf, Ch.on, calleeOf, withArgs, told, hget, structAt, sliceOf, Blk.width, lenOf, ↓reduceIte, reduceCtorEq, Nat.reduceLT, Nat.reduceEqDiff, Nat.reduceAdd, nilTest, h', bT, bC, bW, hl0, q1', q2']
    refine acall_flat' (c_awake12) rfl ?_
    try simp (maxSteps := 2000000) -implicitDefEqProofs only [zz, evop, ev, tget, tput, ok, V.isUndef, Ch.on, xport, resOf, resV, resVs, ↓reduceIte, Nat.reduceLT, Nat.reduceEqDiff]
  have hl0 : ((y.log.1.length : Int) == 0) = false := by
    have := List.length_pos_iff.2 hy0
    simp; exact hy0
  cases hMT : metT w.tab x.log y.reads with
  | true =>
    obtain ⟨q1, q2, q3⟩ := g5 hy0 hMT
    have q1' : (z2.1.phase == 6) = true := by simpa using q1
    have q2' : (z2.1.err == 8) = true := by simpa using q2
    have hs2 := c_r02_Same z2.2.heap z1.2.heap (by rw [q3]; exact g8) g8
    rw [decide_eq_true q3] at hs2
    simp (maxSteps := 2000000) -implicitDefEqProofs only [zz, zE, evop, ev, ofVal, tget, tput, ok, V.isUndef, intBin, guardOf, Ch.on, calleeOf, withArgs, told, hget, structAt, sliceOf, Blk.width, lenOf, ↓reduceIte, reduceCtorEq, Nat.reduceLT, Nat.reduceEqDiff, Nat.reduceAdd, nilTest, h', bT, bC, bW, hl0, q1', q2']
    first | refine acall_flat' (hs2) rfl ?_ | refine dcall_flat' (hs2) rfl ?_ | refine acall_ice' (hs2) ?_ | refine dcall_still' (hs2) rfl ?_
    try simp (maxSteps := 2000000) -implicitDefEqProofs only [zz, evop, ev, tget, tput, ok, V.isUndef, guardOf, Ch.on, calleeOf, withArgs, ↓reduceIte, Nat.reduceLT, Nat.reduceEqDiff]
    refine acall_flat' (c_awake12) rfl ?_
    try simp (maxSteps := 2000000) -implicitDefEqProofs only [zz, evop, ev, tget, tput, ok, V.isUndef, Ch.on, xport, resOf, resV, resVs, ↓reduceIte, Nat.reduceLT, Nat.reduceEqDiff]
  | false =>
    obtain ⟨q1, q2, q3⟩ := g6 hy0 hMT
    have q1' : (z2.1.phase == 5) = true := by simpa using q1
    have q2' : (z2.1.version == z2.2.clock) = true := by simpa using q2
    by_cases hx0 : x.log.1 = []
    · have hx0' : ((x.log.1.length : Int) == 0) = true := by rw [hx0]; rfl
      simp (maxSteps := 2000000) -implicitDefEqProofs only [zz, zE, evop, ev, ofVal, tget, tput, ok, V.isUndef, intBin, guardOf, Ch.on, calleeOf, withArgs, told, hget, structAt, sliceOf, Blk.width, lenOf, ↓reduceIte, reduceCtorEq, Nat.reduceLT, Nat.reduceEqDiff, Nat.reduceAdd, nilTest, h', bT, bC, bW, hl0, q1', q2', hx0']
      refine acall_flat' (c_awake12) rfl ?_
      try simp (maxSteps := 2000000) -implicitDefEqProofs only [zz, evop, ev, tget, tput, ok, V.isUndef, Ch.on, xport, resOf, resV, resVs, ↓reduceIte, Nat.reduceLT, Nat.reduceEqDiff]
    · have hx0' : ((x.log.1.length : Int) == 0) = false := by simp; exact hx0
      have q4 : (z2.1.version == z1.1.version + 1) = true := by
        rcases q3 with q | q
        · exact absurd q hx0
        · simpa using q
      have hwv := g7 hx0
      simp (maxSteps := 2000000) -implicitDefEqProofs only [zz, zE, evop, ev, ofVal, tget, tput, ok, V.isUndef, intBin, guardOf, Ch.on, calleeOf, withArgs, told, hget, structAt, sliceOf, Blk.width, lenOf, ↓reduceIte, reduceCtorEq, Nat.reduceLT, Nat.reduceEqDiff, Nat.reduceAdd, nilTest, h', bT, bC, bW, hl0, q1', q2', hx0', hwv, q4]
      refine acall_flat' (c_awake12) rfl ?_
      try simp (maxSteps := 2000000) -implicitDefEqProofs only [zz, evop, ev, tget, tput, ok, V.isUndef, Ch.on, xport, resOf, resV, resVs, ↓reduceIte, Nat.reduceLT, Nat.reduceEqDiff]
end Go.Proofs.YtjhfpabldidlgaaGreat.AM

set_option linter.all false
set_option maxRecDepth 100000
set_option maxHeartbeats 8000000
namespace Go.Proofs.YtjhfpabldidlgaaGreat.AM
open Go Go.RowKit

theorem c_CommitSteps (c : List St) (who other snap : Int) (w : Wl) (hcl : c.length ≤ 9223372036854775807) :
    CSpec Tryz.prog 10 [.vec (c.map dS), .int .i64 who, .int .i64 other, .int .i64 snap, dWl w] (.bool true) := by
  have hsw := c_law12_small w
  have hcr := c_commit_Right w
  refine CSpec.of_awp envOf_ok hmix Tryz.func10 rfl (fun args w => Tryz.call10 args w) (by simp [Tryz.f10]) ?_
  simp only [Tryz.f10]
  simp (maxSteps := 2000000) -implicitDefEqProofs only [zz, zE, evop, ev, tget, V.isUndef, initT, V.cells, ↓reduceIte, reduceCtorEq, Nat.reduceEqDiff, Nat.reduceAdd]
  unfold dWl
  unfold dWl at hsw hcr
  simp (maxSteps := 2000000) -implicitDefEqProofs only [zz, evop, ev, ofVal, tget, tput, ok, V.isUndef, Ch.on, calleeOf, withArgs, hput, ↓reduceIte, reduceCtorEq, Nat.reduceLT]
  refine acall_flat' (c_law08_Small c hcl) rfl ?_
  try simp (maxSteps := 2000000) -implicitDefEqProofs only [zz, zE, evop, ev, ofVal, tget, tput, ok, V.isUndef, intBin, guardOf, Ch.on, calleeOf, withArgs, told, hget, ↓reduceIte, Nat.reduceLT, Nat.reduceEqDiff, Nat.reduceAdd, Nat.reduceLeDiff, nilTest]
  by_cases hs : smallC c < 0
  · simp (maxSteps := 2000000) -implicitDefEqProofs only [zz, ↓reduceIte, hs]
    refine acall_flat' (c_awake12) rfl ?_
    try simp (maxSteps := 2000000) -implicitDefEqProofs only [zz, evop, ev, tget, tput, ok, V.isUndef, Ch.on, xport, resOf, resV, resVs, ↓reduceIte, Nat.reduceLT]
  simp (maxSteps := 2000000) -implicitDefEqProofs only [zz, ↓reduceIte, hs]
  refine acall_flat' (hsw) rfl ?_
  try simp (maxSteps := 2000000) -implicitDefEqProofs only [zz, zE, evop, ev, ofVal, tget, tput, ok, V.isUndef, guardOf, Ch.on, calleeOf, withArgs, told, hget, ↓reduceIte, Nat.reduceLT, Nat.reduceEqDiff, Nat.reduceAdd, Nat.reduceLeDiff]
  cases hw : smallW w with
  | false =>
    simp (maxSteps := 2000000) -implicitDefEqProofs only [zz, ↓reduceIte]
    refine acall_flat' (c_awake12) rfl ?_
    try simp (maxSteps := 2000000) -implicitDefEqProofs only [zz, evop, ev, tget, tput, ok, V.isUndef, Ch.on, xport, resOf, resV, resVs, ↓reduceIte, Nat.reduceLT]
  | true =>
  simp (maxSteps := 2000000) -implicitDefEqProofs only [zz, ↓reduceIte]
  refine acall_flat' (hcr) rfl ?_
  try simp (maxSteps := 2000000) -implicitDefEqProofs only [zz, zE, evop, ev, ofVal, tget, tput, ok, V.isUndef, intBin, guardOf, Ch.on, calleeOf, withArgs, told, hget, ↓reduceIte, reduceCtorEq, Nat.reduceLT, Nat.reduceEqDiff, Nat.reduceAdd, Nat.reduceLeDiff, nilTest]
  cases hm : mayW w with
  | false =>
    simp (maxSteps := 2000000) -implicitDefEqProofs only [zz, ↓reduceIte]
    refine acall_flat' (c_awake12) rfl ?_
    try simp (maxSteps := 2000000) -implicitDefEqProofs only [zz, evop, ev, tget, tput, ok, V.isUndef, Ch.on, xport, resOf, resV, resVs, ↓reduceIte, Nat.reduceLT]
  | true =>
  by_cases heq : who = other
  · have e : (who == other) = true := by simpa using heq
    simp (maxSteps := 2000000) -implicitDefEqProofs only [zz, ↓reduceIte, e]
    refine acall_flat' (c_awake12) rfl ?_
    try simp (maxSteps := 2000000) -implicitDefEqProofs only [zz, evop, ev, tget, tput, ok, V.isUndef, Ch.on, xport, resOf, resV, resVs, ↓reduceIte, Nat.reduceLT]
  have e : (who == other) = false := by simpa using heq
  obtain ⟨s1, s2⟩ := smallC_0 hs
  obtain ⟨s3, s4⟩ := smallW_t hw
  have htl : ∀ s ∈ c, s.t.length ≤ 1000000 := fun s h => by have := s2 s h; omega
  have ht := c_tried c who snap w (by omega) htl (by omega)
  have hb := c_commit_Begin (tryT c who snap w).1
  have good : (tryT c who snap w).2 = true → doneB (tryT c who snap w).1 = true → BegOk (begC (tryT c who snap w).1) w ∧ (begC (tryT c who snap w).1).t.who = who ∧ (begC (tryT c who snap w).1).t = (tryT c who snap w).1 ∧ ((tryT c who snap w).1.log.1 ≠ [] → (begC (tryT c who snap w).1).phase = 0) ∧ CodeOk c ∧ InvS c (begC (tryT c who snap w).1).t := fun a b => by
    have h1 := tryT_ok a
    have b' : (tryT c who snap w).1.kind = 1 := by simpa [doneB] using b
    obtain ⟨y1, y2, y3, y4⟩ := begC_well h1 b'
    refine ⟨begOk h1 b' hm, by rw [y2]; exact h1.ok.who, y2, fun g => ?_, h1.code, by rw [y2]; exact h1.inv⟩
    rcases y3 with y | y
    · exact absurd y.2.1 g
    · exact y.1
  generalize (tryT c who snap w).2 = b1 at ht good
  generalize hD : doneB (tryT c who snap w).1 = b2 at hb good
  generalize begC (tryT c who snap w).1 = c0 at hb good
  generalize (tryT c who snap w).1 = t at ht hb good
  clear hD
  unfold dT tyC at ht hb
  unfold dCm cmC at hb
  unfold dWl at ht
  have e00 : ((0 : Int) != 0) = false := rfl
  have e10 : ((1 : Int) != 0) = true := rfl
  have f00 : ((0 : Int) == 0) = true := rfl
  simp (maxSteps := 2000000) -implicitDefEqProofs only [zz, ↓reduceIte, e]
  refine acall_ice' (ht) ?_
  try simp (maxSteps := 2000000) -implicitDefEqProofs only [zz, zE, evop, ev, tget, tput, ok, V.isUndef, Ch.on, calleeOf, withArgs, tids, tidss, hget, hput, freeze, V.cells, V.one, splice, ↓reduceIte, Nat.reduceLT, Nat.reduceEqDiff, Nat.reduceAdd, Nat.reduceLeDiff]
  refine acall_ice' (hb) ?_
  try simp (maxSteps := 2000000) -implicitDefEqProofs only [zz, zE, evop, ev, ofVal, tget, tput, ok, V.isUndef, intBin, guardOf, Ch.on, calleeOf, withArgs, told, tids, tidss, hget, hput, freeze, V.cells, V.one, splice, ↓reduceIte, Nat.reduceLT, Nat.reduceEqDiff, Nat.reduceAdd, Nat.reduceLeDiff, nilTest]
  cases b1 with
  | false =>
    simp (maxSteps := 2000000) -implicitDefEqProofs only [zz, ↓reduceIte]
    refine acall_flat' (c_awake12) rfl ?_
    try simp (maxSteps := 2000000) -implicitDefEqProofs only [zz, evop, ev, tget, tput, ok, V.isUndef, Ch.on, xport, resOf, resV, resVs, ↓reduceIte, Nat.reduceLT]
  | true =>
  cases b2 with
  | false =>
    simp (maxSteps := 2000000) -implicitDefEqProofs only [zz, ↓reduceIte, e10]
    refine acall_flat' (c_awake12) rfl ?_
    try simp (maxSteps := 2000000) -implicitDefEqProofs only [zz, evop, ev, tget, tput, ok, V.isUndef, Ch.on, xport, resOf, resV, resVs, ↓reduceIte, Nat.reduceLT]
  | true =>
  obtain ⟨g1, g2, g3, g4, g5, g6⟩ := good rfl rfl
  have hall := c_commit_All c0 w g1.well.toCmOk
  rw [all_it g1] at hall
  obtain ⟨za, hza⟩ : ∃ za, za = itC 6 (c0, w) := ⟨_, rfl⟩
  rw [← hza] at hall
  unfold dCm cmC dWl at hall
  simp (maxSteps := 2000000) -implicitDefEqProofs only [zz, ↓reduceIte]
  first | refine acall_flat' (hall) rfl ?_ | refine dcall_flat' (hall) rfl ?_ | refine acall_ice' (hall) ?_ | refine dcall_still' (hall) rfl ?_
  try simp (maxSteps := 2000000) -implicitDefEqProofs only [zz, zE, evop, ev, tget, tput, ok, V.isUndef, Ch.on, tids, tidss, hget, hput, freeze, V.cells, V.one, splice, ↓reduceIte, Nat.reduceLT, Nat.reduceEqDiff, Nat.reduceAdd, Nat.reduceLeDiff]
  try skip
  refine wdraw_plan [⟨[], false, [18, 19], [], false⟩, ⟨[], false, [69], [0], false⟩, ⟨[1], false, [69], [0], false⟩, ⟨[0, 1, 2], true, [], [], false⟩] (by decide) ?_
  simp (maxSteps := 2000000) -implicitDefEqProofs only [zz, zE, evop, ev, ofVal, tget, tput, ok, V.isUndef, Ch.on, hget, hput, V.cells, D.cells, V.one, splice, D.over, ↓reduceIte, Nat.reduceLT, Nat.reduceEqDiff, Nat.reduceAdd, Nat.reduceLeDiff]
  trace_state
  refine wloop_ind (σ := Nat) (fun i => 6 - i) (fun i => [(70, .d (.int .i64 i)), (18, .d (.int .i64 i)), (2, .d (.int .i64 other)), (9, .ptr 0 0 0), (11, .ptr 1 0 0), (13, .ptr 2 0 0), (15, .ptr 3 0 0), (16, .ptr 4 0 0), (17, .d (.int .i64 0)), (19, .ptr 5 0 0)]) (fun i => [bW w, bT t, bC (itC i (c0, w)).1, bC za.1, bW za.2, bW (itC i (c0, w)).2]) (fun i => i ≤ 6 ∧ ∀ j, j < i → mayC (itC j (c0, w)).1 (itC j (c0, w)).2 = true) 0 ⟨Nat.zero_le _, fun j hj => by omega⟩ ?_ ?_
  · refine Weak.pick [0, 1, 2, 3, 4, 6] (by decide) (by simp) rfl (fun q hq => ?_) (fun i hi => ?_)
    · simp only [List.mem_cons, List.not_mem_nil, or_false] at hq
      rcases hq with rfl | rfl | rfl | rfl | rfl | rfl | rfl | rfl | rfl | rfl <;> exact .same _
    · match i, hi with
      | 0, _ => exact .box false ((wlC w).map V.d) ((wlC w).map V.d) rfl rfl (renL_d _ _ _)
      | 1, _ => exact .box false ((tyC t).map V.d) ((tyC t).map V.d) rfl rfl (renL_d _ _ _)
      | 2, _ => exact .box false ((cmC c0).map V.d) ((cmC c0).map V.d) rfl rfl (renL_d _ _ _)
      | 3, _ => exact .box false ((cmC za.1).map V.d) ((cmC za.1).map V.d) rfl rfl (renL_d _ _ _)
      | 4, _ => exact .box false ((wlC za.2).map V.d) ((wlC za.2).map V.d) rfl rfl (renL_d _ _ _)
      | 5, _ => exact .box false ((wlC w).map V.d) ((wlC w).map V.d) rfl rfl (renL_d _ _ _)
      | i + 6, hi => exact absurd hi (by simp)
  rintro i ⟨hi, hI⟩
  have hw8 : IntKind.i64.wrap ((i : Int) + 1) = ((i + 1 : Nat) : Int) := by rw [wrap_in (by omega)]; omega
  obtain ⟨q1, q2⟩ := steps_in g1 hI
  have h' : ((i : Int) < 6) := by omega
  obtain ⟨k1, k2, k3⟩ := itC_keeps (c0, w) i
  simp only at k1 k2 k3
  have hst := c_commit_Step (itC i (c0, w)).1 (itC i (c0, w)).2 ⟨by rw [k1]; exact g1.well.log, by rw [k1]; exact g1.well.reads⟩
  have hnx : itC (i + 1) (c0, w) = cmStep (itC i (c0, w)).1 (itC i (c0, w)).2 := rfl
  have hsk := itC_stuck (z := (c0, w)) (i := i)
  rw [← hnx] at hst
  cases hmc : mayC (itC i (c0, w)).1 (itC i (c0, w)).2 with
  | false =>
    have e := hsk hmc 6 (by omega)
    rw [hmc, if_neg (by decide)] at hst
    rw [← hza] at e
    subst e
    generalize itC (i + 1) (c0, w) = z1 at hst
    have fl := g6.toInvT.lens g5
    have rz := c_law12_Ref (itC i (c0, w)).1 (by rw [k1]; omega)
    have sz := c_r12_Same (itC i (c0, w)).1 (by rw [k1]; exact same_ok g5 g6.toInvT)
    have wz := c_law12_Worlds (itC i (c0, w)).2
    have ez := c_r12_Worlds (itC i (c0, w)).2 (by omega) (by omega)
    clear hall
    generalize itC i (c0, w) = z at k1 k2 k3 hst rz sz wz ez q2 ⊢
    unfold dCm cmC at hst rz sz
    unfold dWl at hst wz ez
    simp (maxSteps := 2000000) -implicitDefEqProofs only [zz, zE, evop, ev, ofVal, tget, tput, ok, intBin, Ch.on, calleeOf, withArgs, told, hget, ↓reduceIte, Nat.reduceLT, Nat.reduceEqDiff, Nat.reduceAdd, Nat.reduceLeDiff, nilTest, h', bC, bW]
    first | refine acall_flat' (hst) rfl ?_ | refine dcall_flat' (hst) rfl ?_ | refine acall_ice' (hst) ?_ | refine dcall_still' (hst) rfl ?_
    try simp (maxSteps := 2000000) -implicitDefEqProofs only [zz, zE, evop, ev, ofVal, tget, tput, ok, V.isUndef, intBin, guardOf, Ch.on, told, xport, tids, tidss, hget, hput, freeze, V.cells, V.one, structAt, Blk.width, splice, resOf, resV, resVs, ↓reduceIte, reduceCtorEq, Nat.reduceLT, Nat.reduceEqDiff, Nat.reduceAdd, Nat.reduceLeDiff, nilTest]
    simp (maxSteps := 2000000) -implicitDefEqProofs only [↓reduceIte, e10]
    by_cases hp : z.1.phase = 5
    · have f1 : (z.1.phase == 5) = true := by simpa using hp
      by_cases hl : t.log.1 = []
      · have f2 : ¬ ((t.log.1.length : Int) > 0) := by rw [hl]; simp
        have f3 : ¬ ((i : Int) > 5) := by omega
        simp (maxSteps := 2000000) -implicitDefEqProofs only [zz, zE, evop, ev, ofVal, tget, tput, ok, V.isUndef, intBin, guardOf, Ch.on, told, hget, structAt, sliceOf, Blk.width, lenOf, ↓reduceIte, reduceCtorEq, Nat.reduceLT, Nat.reduceEqDiff, Nat.reduceAdd, nilTest, f1, f2, f3, bT]
        refine wdraw_plan [⟨[], true, [], [], false⟩, ⟨[0], true, [], [], false⟩, ⟨[0, 1], true, [], [], false⟩, ⟨[0, 1, 2], false, [119], [], false⟩, ⟨[0, 1, 2, 3], false, [119], [], false⟩, ⟨[0, 1, 2], false, [117, 118], [3, 4], false⟩, ⟨[0, 1, 2, 3, 4, 5], false, [], [], false⟩, ⟨[0, 1, 2, 3, 4, 5, 6], false, [], [], false⟩, ⟨[0, 1, 2, 3, 4, 5, 6, 7], true, [], [], false⟩, ⟨[0, 1, 2, 3, 4, 5, 6, 7, 8], true, [], [], false⟩, ⟨[0, 1, 2, 3, 4, 5, 6, 7, 8, 9], false, [126], [], false⟩, ⟨[0, 1, 2, 3, 4, 5, 6, 7, 8, 9, 10], false, [126], [], false⟩, ⟨[0, 1, 2, 3, 4, 5, 6, 7, 8, 9], false, [124, 125], [10, 11], false⟩, ⟨[0, 1, 2, 3, 4, 5, 6, 7, 8, 9, 10, 11, 12], false, [], [], false⟩, ⟨[0, 1, 2, 3, 4, 5, 6, 7, 8, 9, 10, 11, 12, 13], false, [], [], false⟩, ⟨[0, 1, 2, 3, 4, 5, 6, 7, 8, 9, 10, 11, 12, 13, 14], true, [], [], false⟩, ⟨[0, 1, 2, 3, 4, 5, 6, 7, 8, 9, 10, 11, 12, 13, 14, 15], true, [], [], false⟩, ⟨[0, 1, 2, 3, 4, 5, 6, 7, 8, 9, 10, 11, 12, 13, 14, 15, 16], false, [], [], false⟩, ⟨[0, 1, 2, 3, 4, 5, 6, 7, 8, 9, 10, 11, 12, 13, 14, 15, 16, 17], true, [], [], false⟩, ⟨[0, 1, 2, 3, 4, 5, 6, 7, 8, 9, 10, 11, 12, 13, 14, 15, 16, 17, 18], true, [], [], false⟩] (by decide) ?_
        simp (maxSteps := 2000000) -implicitDefEqProofs only [zz, zE, evop, ev, ofVal, tget, tput, ok, V.isUndef, intBin, guardOf, Ch.on, calleeOf, withArgs, hget, hput, ↓reduceIte, Nat.reduceLT, Nat.reduceEqDiff, Nat.reduceAdd, Nat.reduceSub, Nat.reduceLeDiff]
        first | refine acall_flat' (rz) rfl ?_ | refine dcall_flat' (rz) rfl ?_ | refine acall_ice' (rz) ?_ | refine dcall_still' (rz) rfl ?_
        try simp (maxSteps := 2000000) -implicitDefEqProofs only [zz]
        first | refine acall_flat' (rz) rfl ?_ | refine dcall_flat' (rz) rfl ?_ | refine acall_ice' (rz) ?_ | refine dcall_still' (rz) rfl ?_
        try simp (maxSteps := 2000000) -implicitDefEqProofs only [zz]
        first | refine acall_flat' (sz) rfl ?_ | refine dcall_flat' (sz) rfl ?_ | refine acall_ice' (sz) ?_ | refine dcall_still' (sz) rfl ?_
        try simp (maxSteps := 2000000) -implicitDefEqProofs only [zz, zE, evop, ev, ofVal, tget, tput, ok, V.isUndef, guardOf, Ch.on, calleeOf, withArgs, hget, hput, ↓reduceIte, Nat.reduceLT, Nat.reduceEqDiff, Nat.reduceAdd, Nat.reduceSub, Nat.reduceLeDiff]
        first | refine acall_flat' (wz) rfl ?_ | refine dcall_flat' (wz) rfl ?_ | refine acall_ice' (wz) ?_ | refine dcall_still' (wz) rfl ?_
        try simp (maxSteps := 2000000) -implicitDefEqProofs only [zz]
        first | refine acall_flat' (wz) rfl ?_ | refine dcall_flat' (wz) rfl ?_ | refine acall_ice' (wz) ?_ | refine dcall_still' (wz) rfl ?_
        try simp (maxSteps := 2000000) -implicitDefEqProofs only [zz]
        first | refine acall_flat' (ez) rfl ?_ | refine dcall_flat' (ez) rfl ?_ | refine acall_ice' (ez) ?_ | refine dcall_still' (ez) rfl ?_
        try simp (maxSteps := 2000000) -implicitDefEqProofs only [zz, evop, ev, ofVal, tget, tput, ok, V.isUndef, guardOf, Ch.on, calleeOf, withArgs, hput, ↓reduceIte, Nat.reduceLT, Nat.reduceEqDiff, Nat.reduceAdd]
        first | refine acall_flat' (c_awake12) rfl ?_ | refine dcall_flat' (c_awake12) rfl ?_ | refine acall_ice' (c_awake12) ?_ | refine dcall_still' (c_awake12) rfl ?_
        try simp (maxSteps := 2000000) -implicitDefEqProofs only [zz, evop, ev, tget, tput, ok, V.isUndef, Ch.on, xport, resOf, resV, resVs, ↓reduceIte, Nat.reduceLT, Nat.reduceAdd]
      · have f2 : ((t.log.1.length : Int) > 0) := by have := List.length_pos_iff.2 hl; omega
        have hi5 : i = 5 := q2 hp (by rw [g3]; exact hl) (g4 hl)
        subst hi5
        simp (maxSteps := 2000000) -implicitDefEqProofs only [zz, zE, evop, ev, ofVal, tget, tput, ok, V.isUndef, intBin, guardOf, Ch.on, told, xport, hget, structAt, sliceOf, Blk.width, lenOf, resOf, resV, resVs, ↓reduceIte, reduceCtorEq, Nat.reduceLT, Nat.reduceEqDiff, Nat.reduceAdd, nilTest, f1, f2, bT]
        refine wdraw_plan [⟨[], true, [], [], false⟩, ⟨[0], true, [], [], false⟩, ⟨[0, 1], true, [], [], false⟩, ⟨[0, 1, 2], false, [119], [], false⟩, ⟨[0, 1, 2, 3], false, [119], [], false⟩, ⟨[0, 1, 2], false, [117, 118], [3, 4], false⟩, ⟨[0, 1, 2, 3, 4, 5], false, [], [], false⟩, ⟨[0, 1, 2, 3, 4, 5, 6], false, [], [], false⟩, ⟨[0, 1, 2, 3, 4, 5, 6, 7], true, [], [], false⟩, ⟨[0, 1, 2, 3, 4, 5, 6, 7, 8], true, [], [], false⟩, ⟨[0, 1, 2, 3, 4, 5, 6, 7, 8, 9], false, [126], [], false⟩, ⟨[0, 1, 2, 3, 4, 5, 6, 7, 8, 9, 10], false, [126], [], false⟩, ⟨[0, 1, 2, 3, 4, 5, 6, 7, 8, 9], false, [124, 125], [10, 11], false⟩, ⟨[0, 1, 2, 3, 4, 5, 6, 7, 8, 9, 10, 11, 12], false, [], [], false⟩, ⟨[0, 1, 2, 3, 4, 5, 6, 7, 8, 9, 10, 11, 12, 13], false, [], [], false⟩, ⟨[0, 1, 2, 3, 4, 5, 6, 7, 8, 9, 10, 11, 12, 13, 14], true, [], [], false⟩, ⟨[0, 1, 2, 3, 4, 5, 6, 7, 8, 9, 10, 11, 12, 13, 14, 15], true, [], [], false⟩, ⟨[0, 1, 2, 3, 4, 5, 6, 7, 8, 9, 10, 11, 12, 13, 14, 15, 16], false, [], [], false⟩, ⟨[0, 1, 2, 3, 4, 5, 6, 7, 8, 9, 10, 11, 12, 13, 14, 15, 16, 17], true, [], [], false⟩, ⟨[0, 1, 2, 3, 4, 5, 6, 7, 8, 9, 10, 11, 12, 13, 14, 15, 16, 17, 18], true, [], [], false⟩] (by decide) ?_
        simp (maxSteps := 2000000) -implicitDefEqProofs only [zz, zE, evop, ev, ofVal, tget, tput, ok, V.isUndef, intBin, guardOf, Ch.on, calleeOf, withArgs, hget, hput, ↓reduceIte, Nat.reduceLT, Nat.reduceEqDiff, Nat.reduceAdd, Nat.reduceSub, Nat.reduceLeDiff]
        first | refine acall_flat' (rz) rfl ?_ | refine dcall_flat' (rz) rfl ?_ | refine acall_ice' (rz) ?_ | refine dcall_still' (rz) rfl ?_
        try simp (maxSteps := 2000000) -implicitDefEqProofs only [zz]
        first | refine acall_flat' (rz) rfl ?_ | refine dcall_flat' (rz) rfl ?_ | refine acall_ice' (rz) ?_ | refine dcall_still' (rz) rfl ?_
        try simp (maxSteps := 2000000) -implicitDefEqProofs only [zz]
        first | refine acall_flat' (sz) rfl ?_ | refine dcall_flat' (sz) rfl ?_ | refine acall_ice' (sz) ?_ | refine dcall_still' (sz) rfl ?_
        try simp (maxSteps := 2000000) -implicitDefEqProofs only [zz, zE, evop, ev, ofVal, tget, tput, ok, V.isUndef, guardOf, Ch.on, calleeOf, withArgs, hget, hput, ↓reduceIte, Nat.reduceLT, Nat.reduceEqDiff, Nat.reduceAdd, Nat.reduceSub, Nat.reduceLeDiff]
        first | refine acall_flat' (wz) rfl ?_ | refine dcall_flat' (wz) rfl ?_ | refine acall_ice' (wz) ?_ | refine dcall_still' (wz) rfl ?_
        try simp (maxSteps := 2000000) -implicitDefEqProofs only [zz]
        first | refine acall_flat' (wz) rfl ?_ | refine dcall_flat' (wz) rfl ?_ | refine acall_ice' (wz) ?_ | refine dcall_still' (wz) rfl ?_
        try simp (maxSteps := 2000000) -implicitDefEqProofs only [zz]
        first | refine acall_flat' (ez) rfl ?_ | refine dcall_flat' (ez) rfl ?_ | refine acall_ice' (ez) ?_ | refine dcall_still' (ez) rfl ?_
        try simp (maxSteps := 2000000) -implicitDefEqProofs only [zz, evop, ev, ofVal, tget, tput, ok, V.isUndef, guardOf, Ch.on, calleeOf, withArgs, hput, ↓reduceIte, Nat.reduceLT, Nat.reduceEqDiff, Nat.reduceAdd]
        first | refine acall_flat' (c_awake12) rfl ?_ | refine dcall_flat' (c_awake12) rfl ?_ | refine acall_ice' (c_awake12) ?_ | refine dcall_still' (c_awake12) rfl ?_
        try simp (maxSteps := 2000000) -implicitDefEqProofs only [zz, evop, ev, tget, tput, ok, V.isUndef, Ch.on, xport, resOf, resV, resVs, ↓reduceIte, Nat.reduceLT, Nat.reduceAdd]
    · have f1 : (z.1.phase == 5) = false := by simpa using hp
      have f3 : ¬ ((i : Int) > 5) := by omega
      simp (maxSteps := 2000000) -implicitDefEqProofs only [zz, ↓reduceIte, f1, f3]
      refine wdraw_plan [⟨[], true, [], [], false⟩, ⟨[0], true, [], [], false⟩, ⟨[0, 1], true, [], [], false⟩, ⟨[0, 1, 2], false, [119], [], false⟩, ⟨[0, 1, 2, 3], false, [119], [], false⟩, ⟨[0, 1, 2], false, [117, 118], [3, 4], false⟩, ⟨[0, 1, 2, 3, 4, 5], false, [], [], false⟩, ⟨[0, 1, 2, 3, 4, 5, 6], false, [], [], false⟩, ⟨[0, 1, 2, 3, 4, 5, 6, 7], true, [], [], false⟩, ⟨[0, 1, 2, 3, 4, 5, 6, 7, 8], true, [], [], false⟩, ⟨[0, 1, 2, 3, 4, 5, 6, 7, 8, 9], false, [126], [], false⟩, ⟨[0, 1, 2, 3, 4, 5, 6, 7, 8, 9, 10], false, [126], [], false⟩, ⟨[0, 1, 2, 3, 4, 5, 6, 7, 8, 9], false, [124, 125], [10, 11], false⟩, ⟨[0, 1, 2, 3, 4, 5, 6, 7, 8, 9, 10, 11, 12], false, [], [], false⟩, ⟨[0, 1, 2, 3, 4, 5, 6, 7, 8, 9, 10, 11, 12, 13], false, [], [], false⟩, ⟨[0, 1, 2, 3, 4, 5, 6, 7, 8, 9, 10, 11, 12, 13, 14], true, [], [], false⟩, ⟨[0, 1, 2, 3, 4, 5, 6, 7, 8, 9, 10, 11, 12, 13, 14, 15], true, [], [], false⟩, ⟨[0, 1, 2, 3, 4, 5, 6, 7, 8, 9, 10, 11, 12, 13, 14, 15, 16], false, [], [], false⟩, ⟨[0, 1, 2, 3, 4, 5, 6, 7, 8, 9, 10, 11, 12, 13, 14, 15, 16, 17], true, [], [], false⟩, ⟨[0, 1, 2, 3, 4, 5, 6, 7, 8, 9, 10, 11, 12, 13, 14, 15, 16, 17, 18], true, [], [], false⟩] (by decide) ?_
      simp (maxSteps := 2000000) -implicitDefEqProofs only [zz, zE, evop, ev, ofVal, tget, tput, ok, V.isUndef, intBin, guardOf, Ch.on, calleeOf, withArgs, hget, hput, ↓reduceIte, Nat.reduceLT, Nat.reduceEqDiff, Nat.reduceAdd, Nat.reduceSub, Nat.reduceLeDiff]
      first | refine acall_flat' (rz) rfl ?_ | refine dcall_flat' (rz) rfl ?_ | refine acall_ice' (rz) ?_ | refine dcall_still' (rz) rfl ?_
      try simp (maxSteps := 2000000) -implicitDefEqProofs only [zz]
      first | refine acall_flat' (rz) rfl ?_ | refine dcall_flat' (rz) rfl ?_ | refine acall_ice' (rz) ?_ | refine dcall_still' (rz) rfl ?_
      try simp (maxSteps := 2000000) -implicitDefEqProofs only [zz]
      first | refine acall_flat' (sz) rfl ?_ | refine dcall_flat' (sz) rfl ?_ | refine acall_ice' (sz) ?_ | refine dcall_still' (sz) rfl ?_
      try simp (maxSteps := 2000000) -implicitDefEqProofs only [zz, zE, evop, ev, ofVal, tget, tput, ok, V.isUndef, guardOf, Ch.on, calleeOf, withArgs, hget, hput, ↓reduceIte, Nat.reduceLT, Nat.reduceEqDiff, Nat.reduceAdd, Nat.reduceSub, Nat.reduceLeDiff]
      first | refine acall_flat' (wz) rfl ?_ | refine dcall_flat' (wz) rfl ?_ | refine acall_ice' (wz) ?_ | refine dcall_still' (wz) rfl ?_
      try simp (maxSteps := 2000000) -implicitDefEqProofs only [zz]
      first | refine acall_flat' (wz) rfl ?_ | refine dcall_flat' (wz) rfl ?_ | refine acall_ice' (wz) ?_ | refine dcall_still' (wz) rfl ?_
      try simp (maxSteps := 2000000) -implicitDefEqProofs only [zz]
      first | refine acall_flat' (ez) rfl ?_ | refine dcall_flat' (ez) rfl ?_ | refine acall_ice' (ez) ?_ | refine dcall_still' (ez) rfl ?_
      try simp (maxSteps := 2000000) -implicitDefEqProofs only [zz, evop, ev, ofVal, tget, tput, ok, V.isUndef, guardOf, Ch.on, calleeOf, withArgs, hput, ↓reduceIte, Nat.reduceLT, Nat.reduceEqDiff, Nat.reduceAdd]
      first | refine acall_flat' (c_awake12) rfl ?_ | refine dcall_flat' (c_awake12) rfl ?_ | refine acall_ice' (c_awake12) ?_ | refine dcall_still' (c_awake12) rfl ?_
      try simp (maxSteps := 2000000) -implicitDefEqProofs only [zz, evop, ev, tget, tput, ok, V.isUndef, Ch.on, xport, resOf, resV, resVs, ↓reduceIte, Nat.reduceLT, Nat.reduceAdd]
  | true =>
    rw [hmc, if_pos rfl] at hst
    have hi1 : i + 1 ≤ 6 := by omega
    have hI1 : ∀ j, j < i + 1 → mayC (itC j (c0, w)).1 (itC j (c0, w)).2 = true := fun j hj => by
      by_cases e : j = i
      · subst e; exact hmc
      · exact hI j (by omega)
    have ho := others g1 (o := other) (by rw [g2]; exact fun e => heq e.symm) (i + 1)
    have hh1 := c_Held (itC (i + 1) (c0, w)).2.tab other
    have hh2 := c_Held w.tab other
    rw [ho] at hh1
    have hlen : (heldR w.tab other).length ≤ 1000000 := by unfold heldR; split; exact Nat.le_trans (heldN_len ..) (by omega); simp
    have hnum := c_r03_Numbers (heldR w.tab other) (heldR w.tab other) hlen hlen
    rw [decide_eq_true rfl] at hnum
    generalize heldR w.tab other = L at hh1 hh2 hnum
    generalize hZ1 : itC (i + 1) (c0, w) = z1 at hst hh1
    generalize itC i (c0, w) = z at hst
    unfold dCm cmC dWl at hst
    simp (maxSteps := 2000000) -implicitDefEqProofs only [zz, zE, evop, ev, ofVal, tget, tput, ok, intBin, Ch.on, calleeOf, withArgs, told, hget, ↓reduceIte, Nat.reduceLT, Nat.reduceEqDiff, Nat.reduceAdd, Nat.reduceLeDiff, nilTest, h', bC, bW]
    first | refine acall_flat' (hst) rfl ?_ | refine dcall_flat' (hst) rfl ?_ | refine acall_ice' (hst) ?_ | refine dcall_still' (hst) rfl ?_
    try simp (maxSteps := 2000000) -implicitDefEqProofs only [zz, zE, evop, ev, ofVal, tget, tput, ok, V.isUndef, intBin, Ch.on, told, tids, tidss, hget, hput, freeze, V.cells, V.one, splice, ↓reduceIte, Nat.reduceLT, Nat.reduceEqDiff, Nat.reduceAdd, Nat.reduceLeDiff, nilTest]
    try skip
    trace_state
    refine wdraw_weak (Weak.sealed (T' := [(70, .d (.int .i64 i)), (18, .d (.int .i64 i)), (2, .d (.int .i64 other)), (9, .ptr 0 0 0), (11, .ptr 1 0 0), (13, .ptr 2 0 0), (15, .ptr 3 0 0), (16, .ptr 4 0 0), (17, .d (.int .i64 0)), (19, .ptr 5 0 0), (20, .d (.imm (dCm z1.1) 0)), (21, .d (.imm (dWl z1.2) 0))]) [6, 7] (by simp [tget, sealF, xport, xports, tids, tidss, hget, dCm, cmC, dWl])) [⟨[], false, [82, 83, 84], [], false⟩, ⟨[], false, [81, 82, 83, 84], [0], true⟩, ⟨[], false, [81, 82, 83, 84], [0, 1], true⟩, ⟨[2], false, [81, 82, 84], [0, 1], true⟩, ⟨[0], true, [82, 83, 84], [], false⟩, ⟨[0, 1, 4], true, [83, 84], [], false⟩, ⟨[0, 1, 2, 3, 4, 5], true, [], [], false⟩] (by decide) ?_
    simp only [sealH, AM.freeze, hput, hget, Blk.ice, List.map_cons, List.map_nil, sealB, sealF, List.mem_cons, dCm, cmC, dWl, bT]
    simp (maxSteps := 2000000) -implicitDefEqProofs only [zz, zE, evop, ev, ofVal, tget, tput, ok, V.isUndef, intBin, Ch.on, hget, hput, V.cells, D.cells, V.isAgg, V.one, loadD, splice, ↓reduceIte, Nat.reduceLT, Nat.reduceEqDiff, Nat.reduceAdd, Nat.reduceLeDiff, hw8]
    refine wdraw_plan [⟨[], false, [87, 89, 90, 91], [], false⟩, ⟨[0], false, [87, 89, 90, 91], [], false⟩, ⟨[], false, [85, 86, 89, 90, 91], [0, 1], false⟩, ⟨[0, 1, 2], false, [89, 90, 91], [], false⟩, ⟨[], false, [85, 86, 87, 88, 91], [0, 1, 2, 3], false⟩, ⟨[4], false, [85, 86, 87, 88, 91], [0, 1, 2, 3], false⟩, ⟨[], false, [85, 86, 87, 88, 89, 90], [0, 1, 2, 3, 4, 5], false⟩, ⟨[0, 1, 2, 3, 4, 5, 6], true, [], [], false⟩, ⟨[0, 1, 2, 3, 4, 5, 6, 7], true, [], [], false⟩, ⟨[0, 1, 2, 3, 4, 5, 6, 7, 8], true, [], [], false⟩] (by decide) ?_
    simp (maxSteps := 2000000) -implicitDefEqProofs only [zz, zE, evop, ev, ofVal, tget, tput, ok, V.isUndef, calleeOf, withArgs, hget, hput, D.cells, loadD, structAt, Blk.width, ↓reduceIte, reduceCtorEq, Nat.reduceLT, Nat.reduceEqDiff, Nat.reduceAdd, Nat.reduceLeDiff]
    first | refine acall_flat' (hh1) rfl ?_ | refine dcall_flat' (hh1) rfl ?_ | refine acall_ice' (hh1) ?_ | refine dcall_still' (hh1) rfl ?_
    try skip
    first | refine acall_flat' (hh2) rfl ?_ | refine dcall_flat' (hh2) rfl ?_ | refine acall_ice' (hh2) ?_ | refine dcall_still' (hh2) rfl ?_
    try simp (maxSteps := 2000000) -implicitDefEqProofs only [zz, ev, ofVal, tget, tput, V.isUndef, calleeOf, withArgs, tids, tidss, freeze, ↓reduceIte, Nat.reduceLT, Nat.reduceEqDiff, Nat.reduceAdd]
    first | refine acall_flat' (hnum) rfl ?_ | refine dcall_flat' (hnum) rfl ?_ | refine acall_ice' (hnum) ?_ | refine dcall_still' (hnum) rfl ?_
    try simp (maxSteps := 2000000) -implicitDefEqProofs only [zz, evop, ev, ofVal, tget, tput, ok, V.isUndef, intBin, Ch.on, told, ↓reduceIte, Nat.reduceLT, Nat.reduceEqDiff, Nat.reduceAdd, nilTest]
    simp (maxSteps := 2000000) -implicitDefEqProofs only [hw8]
    refine ⟨i + 1, ⟨hi1, hI1⟩, by omega, ?_⟩
    rw [hZ1]
    exact Weak.trims 6 rfl (by simp [tget, V.lower, hw8]) (by simp [bT, bC, bW, Blk.lower, lowerL, V.lower])
end Go.Proofs.YtjhfpabldidlgaaGreat.AM
