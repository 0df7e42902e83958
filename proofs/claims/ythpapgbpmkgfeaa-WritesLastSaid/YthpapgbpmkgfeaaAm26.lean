/- What an argument reads, as closed data; the row of a law that returns true and leaves all as it was. -/
import Derived.Test.YthpapgbpmkgfeaaAm14
import Derived.ProofKit
set_option linter.all false
namespace Go.Proofs.Ythpapgbpmkgfeaa.AM
open Go Go.RowKit Go.ChangeShapes Go.WideShapes Go.ChangeAt

/-- Fields end to end. -/
def contig (P : Program) : List Field → Nat → Nat → Bool
  | [], o, tot => o == tot
  | f :: r, o, tot => f.offset == o && contig P r (o + P.cellsOf f.type) tot

/-- Whole numbers, booleans, slices and structs of these. -/
def plainB (P : Program) : Nat → TypeId → Bool
  | 0, _ => false
  | n + 1, t => match P.underlying t with
    | some .bool => true
    | some (.int _) => true
    | some (.slice e) => decide (0 < P.cellsOf e) && plainB P n e
    | some (.struct fs) => contig P fs.toList 0 (P.cellsOf t) && fs.toList.all (fun f => plainB P n f.type)
    | _ => false

def ShF (f : TypeId → List D → Prop) : List Field → List D → Prop
  | [], ds => ds = []
  | a :: r, ds => ∃ p q, ds = p ++ q ∧ f a.type p ∧ ShF f r q

/-- The one value of these cells. -/
def oneD (P : Program) (t : TypeId) (ds : List D) : D := match P.underlying t with
  | some (.struct _) => .agg ds
  | _ => ds.headD .undef

/-- These cells are of this type. -/
def Sh (P : Program) : Nat → TypeId → List D → Prop
  | 0, _, _ => False
  | n + 1, t, ds => match P.underlying t with
    | some .bool => ∃ b, ds = [.bool b]
    | some (.int k) => ∃ x, ds = [.int k x] ∧ (Lit.int k x).wf = true
    | some (.slice e) => ∃ els : List (List D), ds = [.vec (els.map (oneD P e))] ∧ els.length ≤ maxLen ∧ ∀ x ∈ els, Sh P n e x
    | some (.struct fs) => ShF (Sh P n) fs.toList ds
    | _ => False

def ShE (P : Program) (n : Nat) (t : TypeId) (d : D) : Prop := ∃ ds, Sh P n t ds ∧ d = oneD P t ds

theorem oneD_cells {P : Program} {n : Nat} {t : TypeId} {ds : List D} (h : Sh P n t ds) : (oneD P t ds).cells = ds := by
  cases n with
  | zero => exact h.elim
  | succ n =>
    simp only [Sh] at h
    unfold oneD
    split at h
    · rename_i ht; obtain ⟨b, rfl⟩ := h; simp [ht, D.cells]
    · rename_i k ht; obtain ⟨b, rfl, _⟩ := h; simp [ht, D.cells]
    · rename_i e ht; obtain ⟨b, rfl, _⟩ := h; simp [ht, D.cells]
    · rename_i fs ht; simp [ht, D.cells]
    · exact h.elim

section
variable {H : Type} {enc : TypeId × Value → H} {P : Program} {w : World} {S0 : Nat → Prop}

/-- These cells hold these data. -/
def RDs (S0 : Nat → Prop) (w : World) (ds : List D) (cs : List Value) : Prop := ds.length = cs.length ∧ ∀ (i : Nat) (d : D) (c : Value), ds[i]? = some d → cs[i]? = some c → RD S0 w d c

theorem RDs.nil : RDs S0 w [] [] := ⟨rfl, by simp⟩
theorem RDs.one {d : D} {c : Value} (h : RD S0 w d c) : RDs S0 w [d] [c] := ⟨rfl, fun i d' c' hd hc => by
  cases i with
  | zero => simp at hd hc; subst hd; subst hc; exact h
  | succ i => simp at hd⟩
theorem RDs.cons {d : D} {c : Value} {ds : List D} {cs : List Value} (h : RD S0 w d c) (hs : RDs S0 w ds cs) : RDs S0 w (d :: ds) (c :: cs) := ⟨by simp [hs.1], fun i d' c' hd hc => by
  cases i with
  | zero => simp at hd hc; subst hd; subst hc; exact h
  | succ i => exact hs.2 i d' c' (by simpa using hd) (by simpa using hc)⟩
theorem RDs.append {a b : List D} {c d : List Value} (h : RDs S0 w a c) (h' : RDs S0 w b d) : RDs S0 w (a ++ b) (c ++ d) := by
  refine ⟨by simp [h.1, h'.1], fun i x y hx hy => ?_⟩
  rcases Nat.lt_or_ge i a.length with hi | hi
  · rw [List.getElem?_append_left hi] at hx
    rw [List.getElem?_append_left (by have := h.1; omega)] at hy
    exact h.2 i x y hx hy
  · rw [List.getElem?_append_right hi] at hx
    rw [List.getElem?_append_right (by have := h.1; omega), ← h.1] at hy
    exact h'.2 _ x y hx hy

theorem fields_sh {F : TypeId → List D → Prop} {cs : List Value} : ∀ (fs : List Field) (o : Nat), contig P fs o cs.length = true → o ≤ cs.length →
    (∀ f ∈ fs, f.offset + P.cellsOf f.type ≤ cs.length → ∃ ds, F f.type ds ∧ RDs S0 w ds ((cs.drop f.offset).take (P.cellsOf f.type))) → ∃ ds, ShF F fs ds ∧ RDs S0 w ds (cs.drop o)
  | [], o, h, _, _ => by
    simp only [contig, beq_iff_eq] at h
    exact ⟨[], rfl, by rw [h, List.drop_length]; exact RDs.nil⟩
  | f :: r, o, h, ho, hf => by
    simp only [contig, Bool.and_eq_true, beq_iff_eq] at h
    have hle : ∀ (fs : List Field) (o : Nat), contig P fs o cs.length = true → o ≤ cs.length := by
      intro fs
      induction fs with
      | nil => intro o h; simp [contig] at h; omega
      | cons g r ih => intro o h; simp only [contig, Bool.and_eq_true, beq_iff_eq] at h; have := ih _ h.2; omega
    have h2 := hle _ _ h.2
    obtain ⟨p, hp1, hp2⟩ := hf f (by simp) (by omega)
    obtain ⟨q, hq1, hq2⟩ := fields_sh r _ h.2 h2 (fun g hg => hf g (by simp [hg]))
    refine ⟨p ++ q, ⟨p, q, rfl, hp1, hq1⟩, ?_⟩
    have := hp2.append hq2
    rw [h.1, ← List.drop_drop, List.take_append_drop] at this
    exact this

theorem sh_of_trod (hS : ∀ B, B < w.heap.size → S0 B) {sp : Nat → Bool} {hd : Bool} : ∀ (n : Nat) {t : TypeId} {fuel : Nat} {cs : List Value} {x : DataW H × List MemPlace}, plainB P n t = true → DataW.trod enc P w 0 sp hd fuel t cs = some x →
    ∃ ds, Sh P n t ds ∧ RDs S0 w ds cs
  | 0, _, _, _, _, h, _ => by simp [plainB] at h
  | n + 1, t, fuel, cs, x, h, hx => by
    simp only [plainB] at h
    split at h
    · rename_i ht
      cases fuel with
      | zero => simp [DataW.trod] at hx
      | succ fuel =>
        unfold DataW.trod at hx
        rw [ht] at hx
        split at hx
        · rename_i b _; exact ⟨[.bool b], by simp [Sh, ht], RDs.one (.bool _)⟩
        all_goals simp_all
    · rename_i k ht
      obtain ⟨q, rfl, rfl, hw⟩ := DataW.trod_int ht hx
      exact ⟨[.int k q], by simp [Sh, ht, hw], RDs.one (.int _ _)⟩
    · rename_i e ht
      simp only [Bool.and_eq_true, decide_eq_true_eq] at h
      rcases DataW.trod_slice ht hx with ⟨rfl, _⟩ | ⟨a, len, cap, elems, rest, m, rfl, rfl, _, hb, hl, hm, hlen, hel, _, _⟩
      · exact ⟨[.vec []], by simp only [Sh, ht]; exact ⟨[], rfl, by simp, by simp⟩, RDs.one (.vec [] none 0 0 0 1 (fun _ => .nilFunc) (by simp) (by simp) (by simp) (by simp) (by simp))⟩
      · have hall : ∀ i, i < len → ∃ ds cs', w.cells? 0 (a.add (i * P.cellsOf e)) (P.cellsOf e) = some cs' ∧ Sh P n e ds ∧ RDs S0 w ds cs' := by
          intro i hi
          have := hel i hi
          rw [List.getElem?_eq_getElem (by omega)] at this
          obtain ⟨cs', h1, h2⟩ := Option.bind_eq_some_iff.1 this
          obtain ⟨ds, h3, h4⟩ := sh_of_trod hS n h.2 h2
          exact ⟨ds, cs', h1, h3, h4⟩
        have hch : ∀ len : Nat, (∀ i, i < len → ∃ ds cs', w.cells? 0 (a.add (i * P.cellsOf e)) (P.cellsOf e) = some cs' ∧ Sh P n e ds ∧ RDs S0 w ds cs') → ∃ els : List (List D), els.length = len ∧ ∀ i, i < len → ∃ ds cs', els[i]? = some ds ∧ w.cells? 0 (a.add (i * P.cellsOf e)) (P.cellsOf e) = some cs' ∧ Sh P n e ds ∧ RDs S0 w ds cs' := by
          intro len
          induction len with
          | zero => exact fun _ => ⟨[], rfl, by simp⟩
          | succ len ih =>
            intro hall
            obtain ⟨els, he1, he2⟩ := ih (fun i hi => hall i (by omega))
            obtain ⟨ds, cs', h1, h2, h3⟩ := hall len (by omega)
            refine ⟨els ++ [ds], by simp [he1], fun i hi => ?_⟩
            rcases Nat.lt_or_ge i len with hi' | hi'
            · obtain ⟨ds', cs'', g1, g2⟩ := he2 i hi'
              exact ⟨ds', cs'', by rw [List.getElem?_append_left (by omega)]; exact g1, g2⟩
            · have : i = len := by omega
              subst this
              exact ⟨ds, cs', by rw [List.getElem?_append_right (by omega), he1]; simp, h1, h2, h3⟩
        obtain ⟨els, he1, he2⟩ := hch len hall
        have hspot : 0 < len → a = ⟨a.block, a.off, none⟩ := by
          intro h0
          obtain ⟨ds, cs', _, g2, _, _⟩ := he2 0 h0
          obtain ⟨_, g3, g4⟩ := World.cells?_some g2
          have := g4 0 h.1
          rw [List.getElem?_eq_getElem (by omega)] at this
          simp only [Nat.zero_mul, Addr.add, if_true] at this
          unfold World.cell? at this
          split at this
          · split at this
            · simp at this
            · rename_i hs
              cases a; simp_all
          · simp at this
        refine ⟨[.vec (els.map (oneD P e))], ?_, RDs.one ?_⟩
        · simp only [Sh, ht]
          refine ⟨els, rfl, by omega, fun y hy => ?_⟩
          obtain ⟨i, hi⟩ := List.getElem?_of_mem hy
          have hil : i < len := by rw [← he1]; exact (List.getElem?_eq_some_iff.1 hi).1
          obtain ⟨ds, cs', g1, _, g3, _⟩ := he2 i hil
          rw [g1] at hi; cases hi; exact g3
        · have hlen' : len = (els.map (oneD P e)).length := by simp [he1]
          have key : ∀ (i : Nat) (d : D) (k : Nat) (y : D), (els.map (oneD P e))[i]? = some d → d.cells[k]? = some y → ∃ c, w.cell? ⟨a.block, a.off + (i * P.cellsOf e + k), none⟩ = some c ∧ RD S0 w y c := by
            intro i d k y hi hk
            have hil : i < len := by rw [hlen']; exact (List.getElem?_eq_some_iff.1 hi).1
            obtain ⟨ds, cs', g1, g2, g3, g4⟩ := he2 i hil
            rw [List.getElem?_map, g1] at hi
            simp only [Option.map_some, Option.some.injEq] at hi
            subst hi
            rw [oneD_cells g3] at hk
            obtain ⟨_, g5, g6⟩ := World.cells?_some g2
            have hkl : k < ds.length := (List.getElem?_eq_some_iff.1 hk).1
            have hk' : k < cs'.length := by rw [← g4.1]; exact hkl
            have g7 := g6 k (by omega)
            rw [List.getElem?_eq_getElem hk'] at g7
            refine ⟨cs'[k], ?_, g4.2 k y _ hk (List.getElem?_eq_getElem hk')⟩
            have e0 := hspot (by omega)
            rw [e0] at g7
            rw [← g7]
            congr 1
            have hadd : ∀ (x y z : Nat), ((⟨x, y, none⟩ : Addr).add z) = ⟨x, y + z, none⟩ := by
              intro x y z; unfold Addr.add; split
              · rename_i h0; subst h0; rfl
              · rfl
            rw [hadd, hadd, Nat.add_assoc]
          have := RD.vec (S := S0) (w := w) (els.map (oneD P e)) (some a) cap a.block a.off (P.cellsOf e) (fun q => (w.cell? ⟨a.block, a.off + q, none⟩).getD .nilFunc) (by omega) (fun hne => by
              rw [← hspot (by rw [hlen']; exact List.length_pos_iff.2 hne)]) (fun d hd => ?_) (fun i d k y hi hk => ?_) (fun i d k y hi hk => ?_)
          · rw [← hlen'] at this; exact this
          · obtain ⟨y, hy, rfl⟩ := List.mem_map.1 hd
            obtain ⟨i, hi⟩ := List.getElem?_of_mem hy
            have hil : i < len := by rw [← he1]; exact (List.getElem?_eq_some_iff.1 hi).1
            obtain ⟨ds, cs', g1, g2, g3, g4⟩ := he2 i hil
            rw [g1] at hi; cases hi
            rw [oneD_cells g3, g4.1]
            exact (World.cells?_some g2).2.1
          · obtain ⟨c, hc, _⟩ := key i d k y hi hk
            exact ⟨hS _ (World.block_lt_of_cell? w ⟨a.block, a.off + (i * P.cellsOf e + k), none⟩ hc), by simp [hc]⟩
          · obtain ⟨c, hc, hr⟩ := key i d k y hi hk
            simpa [hc] using hr
    · rename_i fs ht
      simp only [Bool.and_eq_true] at h
      obtain ⟨xs, m, rfl, rfl, hcl, hxl, hf⟩ := DataW.trod_struct ht hx
      rw [← hcl] at h
      have := fields_sh (S0 := S0) (w := w) (P := P) (F := Sh P n) fs.toList 0 h.1 (Nat.zero_le _) (fun f hfm _ => by
        obtain ⟨i, hi⟩ := List.getElem?_of_mem hfm
        have h1 := hf i f (by simpa using hi)
        have hil : i < fs.toList.length := (List.getElem?_eq_some_iff.1 hi).1
        rw [List.getElem?_eq_getElem (by rw [hxl]; simpa using hil)] at h1
        exact sh_of_trod hS n (List.all_eq_true.1 h.2 f hfm) h1)
      simp only [Sh, ht]
      simpa using this
    · simp at h

/-- A parameter reads closed data. -/
theorem shE_of_trod (hS : ∀ B, B < w.heap.size → S0 B) {sp : Nat → Bool} {hd : Bool} {n : Nat} {t : TypeId} {v : Value} {d : DataW H} {ps : List MemPlace} {r : Reach} {b0 : Nat} (hp : plainB P n t = true) (hval : Value.okWide P w r b0 t v)
    (h : DataW.Trod enc P w 0 sp hd t v d ps) : ∃ e, ShE P n t e ∧ RD S0 w e v := by
  obtain ⟨fuel, hf⟩ := h
  obtain ⟨ds, h1, h2⟩ := sh_of_trod hS n hp hf
  refine ⟨_, ⟨ds, h1, rfl⟩, ?_⟩
  cases n with
  | zero => exact h1.elim
  | succ n =>
    simp only [Sh] at h1
    unfold oneD
    split at h1
    · rename_i ht
      obtain ⟨b, rfl⟩ := okWide_bool ht hval
      obtain ⟨b', rfl⟩ := h1
      simp only [ht, List.headD_cons]
      exact h2.2 0 _ _ rfl (by simp [Value.cells])
    · rename_i k ht
      obtain ⟨b, rfl⟩ := okWide_int ht hval
      obtain ⟨b', rfl, _⟩ := h1
      simp only [ht, List.headD_cons]
      exact h2.2 0 _ _ rfl (by simp [Value.cells])
    · rename_i e ht
      obtain ⟨a, len, cap, rfl⟩ := okWide_slice ht hval
      obtain ⟨b', rfl, _⟩ := h1
      simp only [ht, List.headD_cons]
      exact h2.2 0 _ _ rfl (by simp [Value.cells])
    · rename_i fs ht
      obtain ⟨cs, rfl, _⟩ := okWide_struct ht hval
      simp only [ht]
      have := RD.agg (S := S0) (w := w) ds cs.toList (by simpa [Value.cells] using h2.1) (fun i d c hd hc => h2.2 i d c hd (by simpa [Value.cells] using hc))
      simpa using this
    · exact h1.elim
end

end Go.Proofs.Ythpapgbpmkgfeaa.AM

/- The row of a law that returns true and leaves all as it was. -/
set_option linter.all false
namespace Go.Proofs.Ythpapgbpmkgfeaa.AM
open Go Go.RowKit Go.ChangeShapes Go.WideShapes Go.ChangeAt

section
variable {H : Type} {enc : TypeId × Value → H} {P : Program}

theorem trodAll_below (hl : laidOutB P = true) {W W' : World} (hb : Below W.heap.size W W') : ∀ {ts : List TypeId} {vs : List Value} {ds : List (DataW H)} {ps : List MemPlace},
    (∀ t ∈ ts, P.readableRec t = true ∧ t < P.types.size) → DataW.TrodAll enc P W 0 (fun _ => true) true ts vs ds ps → (∀ x ∈ ps, x.block < W.heap.size) →
    DataW.TrodAll enc P W' 0 (fun b => decide (b < W.heap.size)) true ts vs ds ps
  | [], vs, ds, ps, _, h, _ => by
    obtain ⟨rfl, rfl, rfl⟩ := trodAll_nil h
    rfl
  | t :: ts, vs, ds, ps, hts, h, hlt => by
    obtain ⟨v, vs', d, ds', p, q, rfl, rfl, rfl, h1, h2⟩ := trodAll_cons h
    exact ⟨p, q, Below.trod hl (hts t (by simp)).1 (hts t (by simp)).2 h1 hb (fun x hx => hlt x (by simp [hx])), trodAll_below hl hb (fun u hu => hts u (by simp [hu])) h2 (fun x hx => hlt x (by simp [hx])), rfl⟩

theorem law_calls {f : Nat} {fn : Func} {s : ChangeSpec} {W : World} {args : Array Value} {ds gs : List (DataW H)} {before : List MemPlace} {as : List D} {t : TypeId}
    (hC : CSpec P f as (.bool true)) (hrel : RDs (fun B => B < W.heap.size) W as args.toList) (hW : DataW.Whole enc P fn.params.toList s.vars false W args.toList ds gs before)
    (hl : laidOutB P = true) (hts : ∀ t ∈ fn.params.toList, P.readableRec t = true ∧ t < P.types.size) (hv : s.vars = [])
    (hres : (s.fn H (ds ++ gs)).results = [.lit (.bool true)]) (hargs : (s.fn H (ds ++ gs)).args = ds) (hvars : (s.fn H (ds ++ gs)).vars = [])
    (hrt : fn.resultTypes = #[t]) (ht : P.underlying t = some .bool) :
    Calls P f args W fun e W' => ∃ v, e = .returned v ∧ s.post enc P fn false true false false W args v W' := by
  refine (hC.2 (fun B => B < W.heap.size) W args.toList (fun B hB => hB) hrel.1 hrel.2).mono ?_
  rintro e W' ⟨c, S', rfl, hr, _, hk⟩
  cases hr
  have hb : Below W.heap.size W W' := ⟨hk.os, hk.tape, hk.output, hk.size, fun B hB => hk.block B hB id⟩
  refine ⟨_, rfl, ds, gs, before, [], before, [], hW, ?_, ?_, ?_, hb.frame _, fun h => by cases h⟩
  · rw [hres, hrt]
    exact trodAll_mk1 ⟨1, by simp [DataW.trod, Value.cells, ht]⟩
  · rw [hargs]
    obtain ⟨p, q, h1, h2, rfl, hz, hn⟩ := id hW
    rw [hv] at h2
    obtain ⟨rfl, rfl⟩ := trodVars_none h2
    rw [List.append_nil]
    exact trodAll_below hl hb hts h1 (fun x hx => hW.lt x (by simpa using hx))
  · rw [hvars, hv]; rfl
end

end Go.Proofs.Ythpapgbpmkgfeaa.AM

/- What a parameter's cells are, by its type; bounds of whole numbers. -/
set_option linter.all false
namespace Go.Proofs.Ythpapgbpmkgfeaa.AM
open Go Go.RowKit Go.ChangeShapes Go.WideShapes Go.ChangeAt

theorem shE_int {P : Program} {n t : Nat} {k : IntKind} {d : D} (ht : P.underlying t = some (.int k)) (h : ShE P (n + 1) t d) : ∃ x, d = .int k x ∧ k.min ≤ x ∧ x ≤ k.max := by
  obtain ⟨ds, h1, rfl⟩ := h
  simp only [Sh, ht] at h1
  obtain ⟨x, rfl, hw⟩ := h1
  exact ⟨x, by simp [oneD, ht], by simpa [Lit.wf] using hw⟩

/-- A slice of whole numbers. -/
theorem shE_ints {P : Program} {n t e : Nat} {k : IntKind} {d : D} (ht : P.underlying t = some (.slice e)) (he : P.underlying e = some (.int k)) (h : ShE P (n + 2) t d) :
    ∃ xs : List Int, d = .vec (xs.map (D.int k)) ∧ xs.length ≤ maxLen ∧ ∀ x ∈ xs, k.min ≤ x ∧ x ≤ k.max := by
  obtain ⟨ds, h1, rfl⟩ := h
  simp only [Sh, ht] at h1
  obtain ⟨els, rfl, hl, hw⟩ := h1
  simp only [he] at hw
  have : ∀ els : List (List D), (∀ x ∈ els, ∃ y, x = [D.int k y] ∧ (Lit.int k y).wf = true) → ∃ xs : List Int, xs.length = els.length ∧ els.map (oneD P e) = xs.map (D.int k) ∧ ∀ x ∈ xs, k.min ≤ x ∧ x ≤ k.max := by
    intro els
    induction els with
    | nil => exact fun _ => ⟨[], rfl, rfl, by simp⟩
    | cons a r ih =>
      intro h
      obtain ⟨y, rfl, hy⟩ := h a (by simp)
      obtain ⟨xs, h1, h2, h3⟩ := ih (fun x hx => h x (by simp [hx]))
      refine ⟨y :: xs, by simp [h1], by simp [h2, oneD, he], ?_⟩
      intro x hx
      rcases List.mem_cons.1 hx with rfl | hx
      · simpa [Lit.wf] using hy
      · exact h3 x hx
  obtain ⟨xs, h1, h2, h3⟩ := this els hw
  exact ⟨xs, by simp [oneD, ht, h2], by omega, h3⟩

end Go.Proofs.Ythpapgbpmkgfeaa.AM
