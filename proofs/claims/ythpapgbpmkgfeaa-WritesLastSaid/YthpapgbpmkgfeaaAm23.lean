/- A function that returns what is its caller's own from then on. -/
import Derived.Test.YthpapgbpmkgfeaaAm22
set_option linter.all false
namespace Go.Proofs.Ythpapgbpmkgfeaa.AM
open Go Go.RowKit

def Blk.ren (ρ : Nat → Nat) : Blk → Blk
  | .box fz cells => .box fz (renL ρ cells)
  | b => b

theorem renL_map (ρ : Nat → Nat) : ∀ (vs : List V), renL ρ vs = vs.map (V.ren ρ)
  | [] => rfl
  | v :: r => by simp [renL, renL_map ρ r]

section
variable {P : Program} {E : Env} {n m : Nat} {φ φ' : Nat → Option Loc} {S S' : Nat → Prop} {H H' : Heap} {w : World} {ρ : Nat → Nat}

theorem Blk.ren_width (b : Blk) : (b.ren ρ).width = b.width := by
  cases b <;> simp [Blk.ren, Blk.width, renL_map]

theorem RV.shift (hs : KeepS S w S' w) (hb : ∀ i, hget H i ≠ .unborn → hget H' (ρ i) = (hget H i).ren ρ ∧ φ' (ρ i) = φ i) {v : V} {c : Value} (h : RV φ S H w v c) : RV φ' S' H' w (v.ren ρ) c := by
  have hnu : ∀ i, hget H i ≠ .unborn → hget H' (ρ i) ≠ .unborn := fun i hi => by
    rw [(hb i hi).1]
    cases hx : hget H i <;> simp [Blk.ren]
    exact hi hx
  induction h with
  | d x c hx => exact .d x c (hx.keep hs)
  | nils => exact .nils
  | ptr id i j A hu h =>
    refine .ptr (ρ id) i j A (hnu id hu) (fun sz hw => ?_)
    obtain ⟨e1, e2⟩ := hb id hu
    rw [e1, Blk.ren_width] at hw
    rw [e2]; exact h sz hw
  | own id off len l cap A hu h =>
    refine .own (ρ id) off len l cap A (hnu id hu) (fun fz sz els hw => ?_)
    obtain ⟨e1, e2⟩ := hb id hu
    rw [e2]
    refine h fz sz els ?_
    rw [e1] at hw
    cases hx : hget H id <;> rw [hx] at hw <;> simp [Blk.ren] at hw
    obtain ⟨rfl, rfl, rfl⟩ := hw
    rfl
  | agg vs cs hl _ ih => exact .agg _ cs (by simp [renL_map, hl]) (fun i v c hv hc => by
      simp only [renL_map, List.getElem?_map] at hv
      cases hx : vs[i]? with
      | none => simp [hx] at hv
      | some v0 => simp [hx] at hv; subst hv; exact ih i v0 c hx hc)
  | tuple vs cs hl _ ih => exact .tuple _ cs (by simp [renL_map, hl]) (fun i v c hv hc => by
      simp only [renL_map, List.getElem?_map] at hv
      cases hx : vs[i]? with
      | none => simp [hx] at hv
      | some v0 => simp [hx] at hv; subst hv; exact ih i v0 c hx hc)
  | func f vs cs hl _ ih => exact .func f _ cs (by simp [renL_map, hl]) (fun i v c hv hc => by
      simp only [renL_map, List.getElem?_map] at hv
      cases hx : vs[i]? with
      | none => simp [hx] at hv
      | some v0 => simp [hx] at hv; subst hv; exact ih i v0 c hx hc)

theorem BR.shift (hs : KeepS S w S' w) (hb : ∀ i, hget H i ≠ .unborn → hget H' (ρ i) = (hget H i).ren ρ ∧ φ' (ρ i) = φ i) {i : Nat} {b : Blk} (hφ : φ' (ρ i) = φ i) (hS : ∀ L, φ i = some L → (S' L.blk ↔ S L.blk)) (h : BR φ S H w i b) : BR φ' S' H' w (ρ i) (b.ren ρ) := by
  cases b with
  | unborn => exact hφ.trans h
  | dead => exact hφ.trans h
  | box fz cells =>
    obtain ⟨L, cs, t, h1, h2, h3, h4, h5, h6⟩ := h
    refine ⟨L, cs, t, hφ.trans h1, h2, h3, by simp [renL_map, h4], fun k v c hk hc => ?_, (hS L h1).trans h6⟩
    simp only [renL_map, List.getElem?_map] at hk
    cases hx : cells[k]? with
    | none => simp [hx] at hk
    | some v0 => simp [hx] at hk; subst hk; exact (h5 k v0 c hx hc).shift hs hb
  | dat fz sz els =>
    rcases h with ⟨h1, h2⟩ | ⟨L, cs, t, h1, h2, h3, h4, h5, h6⟩
    · exact .inl ⟨h1, hφ.trans h2⟩
    · exact .inr ⟨L, cs, t, hφ.trans h1, h2, h3, h4, fun i e k x he hx => by
        obtain ⟨c, q1, q2⟩ := h5 i e k x he hx
        exact ⟨c, q1, q2.keep hs⟩, (hS L h1).trans h6⟩

/-- CLOSED DATA IN; what comes out lies in a heap of its own. -/
def FSpec (P : Program) (f : Nat) (args : List D) (r : V) (H1 : Heap) : Prop :=
  Callable P f ∧ ∀ (S0 : Nat → Prop) (w : World) (cs : List Value), (∀ B, S0 B → B < w.heap.size) → args.length = cs.length →
    (∀ (i : Nat) (d : D) (c : Value), args[i]? = some d → cs[i]? = some c → RD S0 w d c) →
    Calls P f cs.toArray w fun e w' => ∃ c φ1 S1, e = .returned c ∧ RV φ1 S1 H1 w' r c ∧ HRel ⟨w.heap.size, fun _ => False, S0⟩ φ1 S1 H1 w' ∧ Kp ⟨w.heap.size, fun _ => False, S0⟩ w w'

def shiftH (k : Nat) (H1 : Heap) : Heap := H1.map (Blk.ren (· + k))

theorem hget_app : ∀ (A B : Heap) (i : Nat), hget (A ++ B) i = if i < A.length then hget A i else hget B (i - A.length)
  | [], B, i => by simp
  | a :: A, B, 0 => by simp [hget]
  | a :: A, B, i + 1 => by simp only [List.cons_append, hget, List.length_cons]; rw [hget_app A B i]; simp [Nat.add_lt_add_iff_right]

theorem hget_shift : ∀ (H1 : Heap) (k i : Nat), hget (shiftH k H1) i = (hget H1 i).ren (· + k)
  | [], k, i => rfl
  | b :: H1, k, 0 => rfl
  | b :: H1, k, i + 1 => hget_shift H1 k i

theorem FSpec.rspec {f : Nat} {vs : List V} {ds : List D} {r : V} {H1 : Heap} (n : Nat) (hx : xports H n vs = some ds) (h : FSpec P f ds r H1) :
    RSpec P f vs H (r.ren (· + (freeze H (tidss H n vs)).length)) (freeze H (tidss H n vs) ++ shiftH (freeze H (tidss H n vs)).length H1) := by
  generalize hf : AM.freeze H (tidss H n vs) = Hf
  refine ⟨h.1, ?_⟩
  intro C φ S w cs hH hv
  obtain ⟨S1, p1, p2, p3⟩ := HRel.freeze hH (tidss H n vs) hH
  rw [hf] at p1 p2
  obtain ⟨q1, q2⟩ := xports_rel (S1 := S1) hH (fun B hB => (p2.keepS B hB (hH.low B hB)).1) n vs cs ds p3 hv hx
  refine (h.2 S1 w cs p1.low q1 q2).mono ?_
  rintro e w' ⟨c, φ1, S2, rfl, hr, hH1, hk⟩
  have hsame : ∀ B, B < w.heap.size → w'.heap[B]? = w.heap[B]? := fun B hB => hk.block B hB (fun h => h)
  let φ' : Nat → Option Loc := fun i => if i < Hf.length then φ i else φ1 (i - Hf.length)
  let S' : Nat → Prop := fun B => S1 B ∨ S2 B
  have hlo : ∀ i, i < Hf.length → φ' i = φ i := fun i h => by simp [φ', h]
  have hhi : ∀ i, φ' (i + Hf.length) = φ1 i := fun i => by simp only [φ']; rw [if_neg (by omega), Nat.add_sub_cancel]
  have hgl : ∀ i, i < Hf.length → hget (Hf ++ shiftH Hf.length H1) i = hget Hf i := fun i h => by rw [hget_app, if_pos h]
  have hgh : ∀ i, hget (Hf ++ shiftH Hf.length H1) (i + Hf.length) = (hget H1 i).ren (· + Hf.length) := fun i => by
    rw [hget_app, if_neg (by omega), Nat.add_sub_cancel, hget_shift]
  have hS2 : ∀ B, S2 B → S1 B ∨ w.heap.size ≤ B := fun B hB => by
    rcases hH1.vis B hB with h | h | h
    · exact .inl h
    · exact h.elim
    · exact .inr h
  have hnew : ∀ i L, φ1 i = some L → w.heap.size ≤ L.blk := fun i L hL => by
    rcases hH1.own i L hL with h | h
    · exact h.elim
    · exact h
  have hst : Step φ S1 Hf w φ' S' (Hf ++ shiftH Hf.length H1) w' := ⟨fun B hB hlt => ⟨.inl hB, hsame B hlt⟩, fun i hi => by
    have hlt : i < Hf.length := Classical.byContradiction fun hn => hi (hget_length Hf i (by omega))
    rw [hgl i hlt, hlo i hlt]
    exact (Step.refl (φ := φ) (S := S1) (H := Hf) (w := w)).keepH i hi⟩
  have hks : KeepS S2 w' S' w' := fun B hB _ => ⟨.inr hB, rfl⟩
  have hbs : ∀ i, hget H1 i ≠ .unborn → hget (Hf ++ shiftH Hf.length H1) (i + Hf.length) = (hget H1 i).ren (· + Hf.length) ∧ φ' (i + Hf.length) = φ1 i := fun i _ => ⟨hgh i, hhi i⟩
  refine ⟨c, φ', S', rfl, RV.shift (ρ := (· + Hf.length)) hks hbs hr, ⟨Nat.le_trans hH.n0 hk.size, ?_, ?_, ?_, ?_, ?_⟩, p2.trans hst (Nat.le_refl _) hk.size, ⟨hk.os, hk.tape, hk.output, hk.size, fun B hB _ => hsame B (Nat.lt_of_lt_of_le hB hH.n0)⟩⟩
  · intro i L hL
    by_cases h : i < Hf.length
    · rw [hlo i h] at hL; exact hH.own i L hL
    · have : φ1 (i - Hf.length) = some L := by simpa [φ', h] using hL
      exact .inr (Nat.le_trans hH.n0 (hnew _ _ this))
  · rintro B (hB | hB)
    · exact p1.vis B hB
    · rcases hS2 B hB with h | h
      · exact p1.vis B h
      · exact .inr (.inr (Nat.le_trans hH.n0 h))
  · intro i j L L' hL hL' he
    by_cases h : i < Hf.length
    · rw [hlo i h] at hL
      by_cases h' : j < Hf.length
      · rw [hlo j h'] at hL'; exact hH.inj i j L L' hL hL' he
      · have h2 : φ1 (j - Hf.length) = some L' := by simpa [φ', h'] using hL'
        have := hnew _ _ h2; have := hH.lt hL; omega
    · have h1 : φ1 (i - Hf.length) = some L := by simpa [φ', h] using hL
      by_cases h' : j < Hf.length
      · rw [hlo j h'] at hL'
        have := hnew _ _ h1; have := hH.lt hL'; omega
      · have h2 : φ1 (j - Hf.length) = some L' := by simpa [φ', h'] using hL'
        have := hH1.inj _ _ L L' h1 h2 he
        omega
  · intro i
    by_cases h : i < Hf.length
    · rw [hgl i h]
      refine (p1.blk i).keep hst (hlo i h) (fun L hL => ⟨hsame _ (hH.lt hL), ⟨fun hh => ?_, .inl⟩⟩)
      rcases hh with hh | hh
      · exact hh
      · rcases hS2 _ hh with h | h
        · exact h
        · have := hH.lt hL; omega
    · obtain ⟨j, rfl⟩ : ∃ j, i = j + Hf.length := ⟨i - Hf.length, by omega⟩
      rw [hgh j]
      refine BR.shift (ρ := (· + Hf.length)) hks hbs (hhi j) (fun L hL => ⟨fun hh => ?_, .inr⟩) (hH1.blk j)
      rcases hh with hh | hh
      · have := p1.low _ hh; have := hnew _ _ hL; omega
      · exact hh
  · rintro B (hB | hB)
    · exact Nat.lt_of_lt_of_le (p1.low B hB) hk.size
    · exact hH1.low B hB

/-- One block of its own, wherever. -/
theorem FSpec.dspec {f : Nat} {vs : List V} {ds : List D} {r : V} {fz : Bool} {sz : Nat} {els : List D} {nid : Nat} (hx : xports H 12 vs = some ds) (h : FSpec P f ds r [.dat fz sz els]) (hi : tidss H 12 vs = []) :
    DSpec P f vs H nid (r.ren (fun _ => nid)) (.dat fz sz els) := by
  intro H' hm hu
  refine ⟨h.1, ?_⟩
  intro C φ S w cs hH hv
  have hx' := xports_more hm 12 _ ds hx
  have hi' : tidss H' 12 vs = [] := tidss_nil 12 _ hi
  obtain ⟨q1, q2⟩ := xports_rel (S1 := S) hH (fun B hB => hB) 12 vs cs ds (fun id hid => by rw [hi'] at hid; simp at hid) hv hx'
  refine (h.2 S w cs hH.low q1 q2).mono ?_
  rintro e w' ⟨c, φ1, S2, rfl, hr, hH1, hk⟩
  have hsame : ∀ B, B < w.heap.size → w'.heap[B]? = w.heap[B]? := fun B hB => hk.block B hB (fun h => h)
  let φ' : Nat → Option Loc := fun i => if i = nid then φ1 0 else φ i
  let S' : Nat → Prop := fun B => S B ∨ S2 B
  have hφn : φ' nid = φ1 0 := by simp [φ']
  have hφo : ∀ i, i ≠ nid → φ' i = φ i := fun i h => by simp [φ', h]
  have hS2 : ∀ B, S2 B → S B ∨ w.heap.size ≤ B := fun B hB => by
    rcases hH1.vis B hB with h | h | h
    · exact .inl h
    · exact h.elim
    · exact .inr h
  have hnew : ∀ i L, φ1 i = some L → w.heap.size ≤ L.blk := fun i L hL => by
    rcases hH1.own i L hL with h | h
    · exact h.elim
    · exact h
  have hst : Step φ S H' w φ' S' (hput H' nid (.dat fz sz els)) w' := ⟨fun B hB hlt => ⟨.inl hB, hsame B hlt⟩, fun i hi => by
    have hne : i ≠ nid := fun e => hi (e ▸ hu)
    rw [hget_hput, if_neg hne, hφo i hne]
    exact (Step.refl (φ := φ) (S := S) (H := H') (w := w)).keepH i hi⟩
  have hks : KeepS S2 w' S' w' := fun B hB _ => ⟨.inr hB, rfl⟩
  have hbs : ∀ i, hget [Blk.dat fz sz els] i ≠ .unborn → hget (hput H' nid (.dat fz sz els)) ((fun _ => nid) i) = (hget [Blk.dat fz sz els] i).ren (fun _ => nid) ∧ φ' ((fun _ => nid) i) = φ1 i := fun i hi => by
    cases i with
    | zero => exact ⟨by simp [hget_hput, hget, Blk.ren], hφn⟩
    | succ i => exact absurd rfl hi
  refine ⟨c, φ', S', rfl, RV.shift (ρ := fun _ => nid) hks hbs hr, ⟨Nat.le_trans hH.n0 hk.size, ?_, ?_, ?_, ?_, ?_⟩, hst, ⟨hk.os, hk.tape, hk.output, hk.size, fun B hB _ => hsame B (Nat.lt_of_lt_of_le hB hH.n0)⟩⟩
  · intro i L hL
    by_cases h : i = nid
    · subst h; rw [hφn] at hL; exact .inr (Nat.le_trans hH.n0 (hnew _ _ hL))
    · rw [hφo i h] at hL; exact hH.own i L hL
  · rintro B (hB | hB)
    · exact hH.vis B hB
    · rcases hS2 B hB with h | h
      · exact hH.vis B h
      · exact .inr (.inr (Nat.le_trans hH.n0 h))
  · intro i j L L' hL hL' he
    by_cases h : i = nid
    · subst h; rw [hφn] at hL
      by_cases h' : j = i
      · exact h'.symm
      · rw [hφo j h'] at hL'; have := hnew _ _ hL; have := hH.lt hL'; omega
    · rw [hφo i h] at hL
      by_cases h' : j = nid
      · subst h'; rw [hφn] at hL'; have := hnew _ _ hL'; have := hH.lt hL; omega
      · rw [hφo j h'] at hL'; exact hH.inj i j L L' hL hL' he
  · intro i
    by_cases h : i = nid
    · subst h
      rw [hget_hput, if_pos rfl]
      exact BR.shift (ρ := fun _ => i) (b := .dat fz sz els) (i := 0) hks hbs hφn (fun L hL => ⟨fun hh => by
        rcases hh with hh | hh
        · have := hH.low _ hh; have := hnew _ _ hL; omega
        · exact hh, .inr⟩) (hH1.blk 0)
    · rw [hget_hput, if_neg h]
      refine (hH.blk i).keep hst (hφo i h) (fun L hL => ⟨hsame _ (hH.lt hL), ⟨fun hh => ?_, .inl⟩⟩)
      rcases hh with hh | hh
      · exact hh
      · rcases hS2 _ hh with h | h
        · exact h
        · have := hH.lt hL; omega
  · rintro B (hB | hB)
    · exact Nat.lt_of_lt_of_le (hH.low B hB) hk.size
    · exact hH1.low B hB

theorem dcall_own {f : Nat} {vs : List V} {ds : List D} {r : V} {fz : Bool} {sz : Nat} {els : List D} {nid : Nat} {DK : V → Blk → Prop} (hx : xports H 12 vs = some ds) (h : FSpec P f ds r [.dat fz sz els]) (hi : tidss H 12 vs = [])
    (hK : DK (r.ren (fun _ => nid)) (.dat fz sz els)) : dcall P f vs H nid DK := ⟨_, _, FSpec.dspec hx h hi, hK⟩

/-- The function's end: in a heap of its own. -/
def FinF (E : Env) (rs : List ResultVar) (r : V) (H1 : Heap) : Ex → Tmps → Heap → Prop
  | .exit _, _, _ => False
  | _, T, H => ∃ v, resOf E T H rs = some v ∧ Weak 0 [(0, v)] H [(0, r)] H1

theorem FSpec.of_awp {f : Nat} {fn : Func} {body : Code} {args : List D} {r : V} {H1 : Heap} (hE : EOk P E) (hmix : P.follows .mixedOrders = true) (hf : P.funcs[f]? = some fn) (hb : fn.body = some body) (hcall : Callable P f) (hn : args.length ≤ fn.ntmps)
    (h : awp P E fn.ntmps 0 body (initT 0 args) [] (FinF E fn.results.toList r H1)) : FSpec P f args r H1 := by
  refine ⟨hcall, fun S0 w cs hS0 hlen hrel => ?_⟩
  have hsz : (cs.toArray ++ Array.replicate (fn.ntmps - cs.toArray.size) undef).size = fn.ntmps := by simp; omega
  have hst : Stands ⟨w.heap.size, fun _ => False, S0⟩ fn.ntmps (initT 0 args) [] (fun _ => none) S0 { tmps := cs.toArray ++ Array.replicate (fn.ntmps - cs.toArray.size) undef, defers := [] } w := by
    refine ⟨⟨Nat.le_refl _, (fun id L h => by cases h), (fun B hB => .inl hB), (fun i j L L' h => by cases h), (fun id => rfl), hS0⟩, fun t => ?_, hsz, rfl⟩
    rw [initT_get]
    simp only [Nat.zero_le, if_true, Nat.sub_zero]
    by_cases ht : t < args.length
    · have hc : t < cs.length := by omega
      rw [List.getElem?_eq_getElem ht]
      have : (cs.toArray ++ Array.replicate (fn.ntmps - cs.toArray.size) undef).getD t undef = cs[t] := by
        simp [Array.getElem?_append, hc]
      rw [this]
      exact .d _ _ (hrel t _ _ (List.getElem?_eq_getElem ht) (List.getElem?_eq_getElem hc))
    · rw [List.getElem?_eq_none (by omega)]
      exact .d _ _ (.undef _)
  refine calls_of_wp hf hb (wp_mono (awp_sound (m := 0) hE hmix body hst h) ?_)
  rintro e a' w' ⟨e', T', H', φ', S', hq, rfl, hst', hs', hk'⟩
  have fin : (∃ v, resOf E T' H' fn.results.toList = some v ∧ Weak 0 [(0, v)] H' [(0, r)] H1) → a'.defers = [] ∧ ∃ v, (results fn a'.tmps).run P w' = .ok v w' ∧
      ∃ c φ1 S1, Ending.returned v = .returned c ∧ RV φ1 S1 H1 w' r c ∧ HRel ⟨w.heap.size, fun _ => False, S0⟩ φ1 S1 H1 w' ∧ Kp ⟨w.heap.size, fun _ => False, S0⟩ w w' := by
    rintro ⟨v, hv, hx⟩
    obtain ⟨c, hrun, hc⟩ := resOf_sound hE hst' hv
    obtain ⟨φ1, S1, g1, g2, g3⟩ := hx _ φ' S' w' { tmps := #[c], defers := [] } hst'.heap (fun t => by
      simp only [tget]
      split
      · rename_i e; subst e; exact hc
      · exact .d _ _ (.undef _))
    refine ⟨hst'.defers, c, hrun, c, φ1, S1, rfl, ?_, g1, hk'⟩
    have := g2 0
    simpa [tget] using this
  cases e' with
  | normal => exact fin hq
  | ret => exact fin hq
  | exit id => exact hq.elim

/-- A call whose result is the caller's own. -/
theorem acall_own {f : Nat} {vs : List V} {ds : List D} {r : V} {H1 : Heap} {dst : Option Nat} {T : Tmps} {K : Tmps → Heap → Prop} (hx : xports H 12 vs = some ds) (h : FSpec P f ds r H1)
    (hK : K (tput n T dst (r.ren (· + (freeze H (tidss H 12 vs)).length))) (freeze H (tidss H 12 vs) ++ shiftH (freeze H (tidss H 12 vs)).length H1)) : acall P n f vs dst T H K :=
  ⟨_, _, FSpec.rspec 12 hx h, hK⟩

def afinF (E : Env) (rs : List ResultVar) (r : V) (H1 : Heap) (T : Tmps) (H : Heap) : Prop := ∃ v, resOf E T H rs = some v ∧ Weak 0 [(0, v)] H [(0, r)] H1
theorem z37 {rs r H1 T} : FinF E rs r H1 .ret T H = afinF E rs r H1 T H := rfl
theorem z38 {rs r H1 T} : FinF E rs r H1 .normal T H = afinF E rs r H1 T H := rfl
theorem z39 {rs r H1 T} : afinF E rs r H1 T H = (match resOf E T H rs with | some v => Weak 0 [(0, v)] H [(0, r)] H1 | none => False) := by
  unfold afinF
  cases resOf E T H rs <;> simp

/-- The new numbers: a list of the old ones. -/
def pickρ (l : List Nat) (k : Nat) : Nat → Nat := fun i => (l[i]?).getD (i + k)

/-- BLOCKS PICKED, numbered anew. -/
theorem Weak.pick {T T' : Tmps} {H H' : Heap} (l : List Nat) (hnd : l.Nodup) (hlt : ∀ i ∈ l, i < H.length ∨ H.length + H'.length ≤ i) (hlen : l.length = H'.length) (hT : ∀ q ∈ T', Ren (pickρ l (H.length + H'.length)) H' q.2 (tget T q.1)) (hB : ∀ i, i < H'.length → RenB (pickρ l (H.length + H'.length)) H H' i) : Weak 0 T H T' H' := by
  have hborn : ∀ i, i < H'.length → hget H' i ≠ .unborn := fun i hi e => by
    rcases hB i hi with ⟨_, _, _, h, _⟩ | ⟨_, _, _, h, _⟩ | ⟨_, h, _⟩ | h <;> rw [e] at h <;> cases h
  have hin : ∀ i, i < H'.length → ∃ x, l[i]? = some x ∧ pickρ l (H.length + H'.length) i = x := fun i hi => by
    have : i < l.length := by omega
    exact ⟨l[i], List.getElem?_eq_getElem this, by simp [pickρ, List.getElem?_eq_getElem this]⟩
  have hno : ∀ i, hget H' i ≠ .unborn → i < H'.length := fun i h => Classical.byContradiction fun hn => h (hget_length H' i (by omega))
  refine Weak.ren (pickρ l (H.length + H'.length)) (fun t => ?_) (fun i hu => hB i (hno i hu)) (fun i hu => ?_) (fun i j hi hj he hu => ?_)
  · rcases tget_mem (T' := T') (t := t) with h | ⟨q, h1, rfl, h3⟩
    · rw [h]; exact .undef _
    · rw [h3]; exact hT q h1
  · have : H'.length ≤ i := Classical.byContradiction fun hn => hborn i (by omega) hu
    have h2 : pickρ l (H.length + H'.length) i = i + (H.length + H'.length) := by simp [pickρ, List.getElem?_eq_none (by omega : l.length ≤ i)]
    rw [h2]; exact hget_length H _ (by omega)
  · obtain ⟨x, h1, h2⟩ := hin i (hno i hi)
    obtain ⟨y, h3, h4⟩ := hin j (hno j hj)
    rw [h2, h4] at he
    subst he
    have a1 := (List.getElem?_eq_some_iff.1 h1)
    have a2 := (List.getElem?_eq_some_iff.1 h3)
    exact (List.getElem_inj hnd).1 (a1.2.trans a2.2.symm)

end
end Go.Proofs.Ythpapgbpmkgfeaa.AM
