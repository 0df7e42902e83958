/- One operation of the machine is one of the model: new blocks, loads, stores. -/
import Derived.Test.YthpapgbpmkgfeaaAm3
set_option linter.all false
namespace Go.Proofs.Ythpapgbpmkgfeaa.AM
open Go Go.RowKit

/-- Related lists. -/
structure RVs (φ : Nat → Option Loc) (S : Nat → Prop) (H : Heap) (w : World) (vs : List V) (cs : List Value) : Prop where
  len : vs.length = cs.length
  at_ : ∀ (i : Nat) (v : V) (c : Value), vs[i]? = some v → cs[i]? = some c → RV φ S H w v c

section
variable {P : Program} {E : Env} {C : Ctx} {φ φ' : Nat → Option Loc} {S S' : Nat → Prop} {H H' : Heap} {w w' : World} {T : Tmps} {a : Act}

theorem RVs.nil : RVs φ S H w [] [] := ⟨rfl, fun i v c h => by simp at h⟩
theorem RVs.cons {v : V} {c : Value} {vs : List V} {cs : List Value} (h : RV φ S H w v c) (hs : RVs φ S H w vs cs) : RVs φ S H w (v :: vs) (c :: cs) :=
  ⟨by simp [hs.len], fun i x y hx hy => by
    cases i with
    | zero => simp at hx hy; subst hx; subst hy; exact h
    | succ i => exact hs.at_ i x y (by simpa using hx) (by simpa using hy)⟩
theorem RVs.take {vs : List V} {cs : List Value} (h : RVs φ S H w vs cs) (n : Nat) : RVs φ S H w (vs.take n) (cs.take n) :=
  ⟨by simp [h.len], fun i x y hx hy => by
    rw [List.getElem?_take] at hx hy
    split at hx
    · rename_i hi; rw [if_pos hi] at hy; exact h.at_ i x y hx hy
    · cases hx⟩
theorem RVs.drop {vs : List V} {cs : List Value} (h : RVs φ S H w vs cs) (n : Nat) : RVs φ S H w (vs.drop n) (cs.drop n) :=
  ⟨by simp [h.len], fun i x y hx hy => by rw [List.getElem?_drop] at hx hy; exact h.at_ _ x y hx hy⟩
theorem RVs.append {vs us : List V} {cs ds : List Value} (h : RVs φ S H w vs cs) (h' : RVs φ S H w us ds) : RVs φ S H w (vs ++ us) (cs ++ ds) :=
  ⟨by simp [h.len, h'.len], fun i x y hx hy => by
    rw [List.getElem?_append] at hx hy
    split at hx
    · rename_i hi; rw [if_pos (by rw [← h.len]; exact hi)] at hy; exact h.at_ i x y hx hy
    · rename_i hi; rw [if_neg (by rw [← h.len]; exact hi)] at hy; exact h'.at_ _ x y hx (by rw [h.len]; exact hy)⟩
theorem RVs.step {vs : List V} {cs : List Value} (hs : Step φ S H w φ' S' H' w') (h : RVs φ S H w vs cs) : RVs φ' S' H' w' vs cs :=
  ⟨h.len, fun i x y hx hy => (h.at_ i x y hx hy).step hs⟩
theorem RVs.splice {vs us : List V} {cs ds : List Value} (h : RVs φ S H w vs cs) (h' : RVs φ S H w us ds) (j : Nat) : RVs φ S H w (splice vs j us) (AM.splice cs j ds) := by
  unfold AM.splice
  rw [h'.len]
  exact ((h.take j).append h').append (h.drop _)

theorem RVs.of_agg {vs : List V} {c : Value} (h : RV φ S H w (.agg vs) c) : ∃ cs : List Value, c = .agg cs.toArray ∧ RVs φ S H w vs cs := by
  cases h with | agg _ cs hl h => exact ⟨cs, rfl, hl, h⟩
theorem RVs.of_dagg {ds : List D} {c : Value} (h : RV φ S H w (.d (.agg ds)) c) : ∃ cs : List Value, c = .agg cs.toArray ∧ RVs φ S H w (ds.map V.d) cs := by
  cases h with | d x c h => cases h with | agg _ cs hl h =>
    refine ⟨cs, rfl, by simpa using hl, fun i x y hx hy => ?_⟩
    rw [List.getElem?_map] at hx
    cases hd : ds[i]? with
    | none => simp [hd] at hx
    | some d => simp [hd] at hx; subst hx; exact .d _ _ (h i d y hd hy)

/-- The cells of a value. -/
theorem RV.cells {v : V} {c : Value} (h : RV φ S H w v c) (hu : v.isUndef = false) : RVs φ S H w v.cells c.cells.toList := by
  have one : ∀ {v : V} {c : Value}, RV φ S H w v c → v.cells = [v] → c.cells = #[c] → RVs φ S H w v.cells c.cells.toList := fun h e1 e2 => by
    rw [e1, e2]; exact .cons h .nil
  cases h with
  | d x c hx =>
    cases hx with
    | undef => simp [V.isUndef] at hu
    | agg ds cs hl hh =>
      obtain ⟨cs', e, hr⟩ := RVs.of_dagg (.d _ _ (.agg ds cs hl hh) : RV φ S H w (.d (.agg ds)) (.agg cs.toArray))
      have e' : cs = cs' := by injection e with e; simpa using congrArg Array.toList e
      subst e'
      simpa [V.cells, Value.cells] using hr
    | bool b => exact one (.d _ _ (.bool b)) rfl rfl
    | int k n => exact one (.d _ _ (.int k n)) rfl rfl
    | nilp => exact one (.d _ _ .nilp) rfl rfl
    | nilf => exact one (.d _ _ .nilf) rfl rfl
    | tuple ds cs hl hh => exact one (.d _ _ (.tuple ds cs hl hh)) rfl rfl
    | func f ds cs hl hh => exact one (.d _ _ (.func f ds cs hl hh)) rfl rfl
    | vec els a cap B o sz m h1 h2 h3 h4 h5 => exact one (.d _ _ (.vec els a cap B o sz m h1 h2 h3 h4 h5)) rfl rfl
    | imm e j B o m h1 h2 => exact one (.d _ _ (.imm e j B o m h1 h2)) rfl rfl
  | nils => exact one .nils rfl rfl
  | ptr id i j A hb h => exact one (.ptr id i j A hb h) rfl rfl
  | own id off len l cap A hb h => exact one (.own id off len l cap A hb h) rfl rfl
  | agg vs cs hl h => exact ⟨by simpa [V.cells, Value.cells] using hl, by simpa [V.cells, Value.cells] using h⟩
  | tuple vs cs hl h => exact one (.tuple vs cs hl h) rfl rfl
  | func f vs cs hl h => exact one (.func f vs cs hl h) rfl rfl

theorem RV.one_inv {v : V} {c : Value} (h : RV φ S H w v c) (ho : v.one = true) : c.oneCell' = true := by
  cases h with
  | d x c hx => cases hx <;> first | rfl | simp [V.one] at ho
  | nils => rfl
  | ptr => rfl
  | own => rfl
  | agg => simp [V.one] at ho
  | tuple => simp [V.one] at ho
  | func => rfl

theorem hget_hput (H : Heap) (id i : Nat) (b : Blk) : hget (hput H id b) i = if i = id then b else hget H i := by
  induction H generalizing id i with
  | nil =>
    induction id generalizing i with
    | zero => cases i <;> simp [hput, hget]
    | succ id ih => cases i <;> simp [hput, hget, ih]
  | cons x H ih =>
    cases id with
    | zero => cases i <;> simp [hput, hget]
    | succ id => cases i <;> simp [hput, hget, ih]

def upd (φ : Nat → Option Loc) (id : Nat) (L : Option Loc) : Nat → Option Loc := fun i => if i = id then L else φ i

/-- A block keeps what it is, where the step leaves it alone. -/
theorem BR.keep {id : Nat} {b : Blk} (h : BR φ S H w id b) (hs : Step φ S H w φ' S' H' w') (hφ : φ' id = φ id)
    (hw : ∀ L, φ id = some L → w'.heap[L.blk]? = w.heap[L.blk]? ∧ (S' L.blk ↔ S L.blk)) : BR φ' S' H' w' id b := by
  cases b with
  | unborn => exact hφ.trans h
  | dead => exact hφ.trans h
  | box fz cells =>
    obtain ⟨L, cs, t, h1, h2, h3, h4, h5, h6⟩ := h
    obtain ⟨hw1, hw2⟩ := hw L h1
    exact ⟨L, cs, t, hφ.trans h1, h2, ⟨hw1.trans h3.heap, h3.size⟩, h4, fun k v c hk hc => (h5 k v c hk hc).step hs, hw2.trans h6⟩
  | dat fz sz els =>
    rcases h with ⟨h1, h2⟩ | ⟨L, cs, t, h1, h2, h3, h4, h5, h6⟩
    · exact .inl ⟨h1, hφ.trans h2⟩
    · obtain ⟨hw1, hw2⟩ := hw L h1
      exact .inr ⟨L, cs, t, hφ.trans h1, ⟨hw1.trans h2.heap, h2.size⟩, h3, h4, fun i e k x he hx => by
        obtain ⟨c, hc, hr⟩ := h5 i e k x he hx
        exact ⟨c, hc, hr.keep hs.keepS⟩, hw2.trans h6⟩

theorem HRel.lt (hH : HRel C φ S H w) {id : Nat} {L : Loc} (h : φ id = some L) : L.blk < w.heap.size := by
  have hb := hH.blk id
  cases hg : hget H id with
  | unborn => rw [hg] at hb; simp only [BR] at hb; rw [hb] at h; cases h
  | dead => rw [hg] at hb; simp only [BR] at hb; rw [hb] at h; cases h
  | box fz cells =>
    rw [hg] at hb
    obtain ⟨L', cs, t, h1, h2, h3, _⟩ := hb
    rw [h1] at h; cases h
    exact (Array.getElem?_eq_some_iff.1 h3.heap).1
  | dat fz sz els =>
    rw [hg] at hb
    rcases hb with ⟨h1, h2⟩ | ⟨L', cs, t, h1, h3, _⟩
    · rw [h2] at h; cases h
    · rw [h1] at h; cases h
      exact (Array.getElem?_eq_some_iff.1 h3.heap).1

/-- A NEW BLOCK. -/
theorem HRel.alloc (hH : HRel C φ S H w) {nid : Nat} (hu : hget H nid = .unborn) (b : Blk) (cs : Array Value) (t : TypeId)
    (hb : Step φ S H w (upd φ nid (some ⟨w.heap.size, 0, cs.size⟩)) S (hput H nid b) (w.alloc (.cells cs t)) →
      BR (upd φ nid (some ⟨w.heap.size, 0, cs.size⟩)) S (hput H nid b) (w.alloc (.cells cs t)) nid b) :
    HRel C (upd φ nid (some ⟨w.heap.size, 0, cs.size⟩)) S (hput H nid b) (w.alloc (.cells cs t)) ∧
      Step φ S H w (upd φ nid (some ⟨w.heap.size, 0, cs.size⟩)) S (hput H nid b) (w.alloc (.cells cs t)) ∧ Kp C w (w.alloc (.cells cs t)) := by
  have hs : Step φ S H w (upd φ nid (some ⟨w.heap.size, 0, cs.size⟩)) S (hput H nid b) (w.alloc (.cells cs t)) :=
    ⟨fun B h hlt => ⟨h, heap_alloc_old w _ hlt⟩, fun id hid => by
      have hne : id ≠ nid := fun e => hid (by rw [e]; exact hu)
      rw [hget_hput, if_neg hne]
      by_cases hd : hget H id = .dead
      · exact .inl hd
      · exact .inr ⟨.refl hid hd, by simp [upd, hne]⟩⟩
  refine ⟨⟨?_, ?_, hH.vis, ?_, ?_, ?_⟩, hs, ⟨rfl, rfl, rfl, by simp, fun B hB _ => heap_alloc_old w _ (Nat.lt_of_lt_of_le hB hH.n0)⟩⟩
  · have := hH.n0; simp; omega
  · intro id L h
    by_cases hne : id = nid
    · subst hne; simp [upd] at h; subst h; exact .inr hH.n0
    · simp [upd, hne] at h; exact hH.own id L h
  · intro id id' L L' h h' e
    by_cases h1 : id = nid <;> by_cases h2 : id' = nid
    · rw [h1, h2]
    · subst h1; simp [upd] at h; simp [upd, h2] at h'; subst h
      have := hH.lt h'; simp at e; omega
    · subst h2; simp [upd] at h'; simp [upd, h1] at h; subst h'
      have := hH.lt h; simp at e; omega
    · simp [upd, h1] at h; simp [upd, h2] at h'; exact hH.inj id id' L L' h h' e
  · intro id
    rw [hget_hput]
    by_cases hne : id = nid
    · rw [if_pos hne, hne]; exact hb hs
    · rw [if_neg hne]
      exact (hH.blk id).keep hs (by simp [upd, hne]) (fun L hL => ⟨heap_alloc_old w _ (hH.lt hL), Iff.rfl⟩)
  · intro B hB; have := hH.low B hB; simp; omega

theorem run_zeroValue' {t : Nat} {i : TypeInfo} {z : Value} (h : P.info? t = some i) (hz : i.zero = some z) : (zeroValue t).run P w = .ok z w := by
  simp [zeroValue, typeInfo, h, hz]

theorem out_box_gen {o : Oper} {nid : Nat} {vs : List V} {c : Value} {t : Nat} (hr : (execOp a.eval o).run P w = .ok (.value (.pointer (some ⟨w.heap.size, 0, none⟩))) (w.alloc (.cells c.cells t)))
    (hv : RVs φ S H w vs c.cells.toList) (hH : HRel C φ S H w) (hu : hget H nid = .unborn) :
    Out P C φ S H w o a (.ptr nid 0 0) (hput H nid (.box false vs)) := by
  obtain ⟨h1, h2, h3⟩ := hH.alloc hu (.box false vs) c.cells t (fun hs => ⟨⟨w.heap.size, 0, c.cells.size⟩, c.cells, t, by simp [upd], rfl, ⟨heap_alloc_new w _, rfl⟩, by simpa using hv.len,
    fun k v x hk hx => (hv.at_ k v x hk (by simpa using hx)).step hs, by simp; intro h; exact absurd (hH.low _ h) (by simp)⟩)
  refine ⟨_, _, _, .inl hr, .ptr nid 0 0 _ (by rw [hget_hput]; simp) (fun sz _ => ⟨⟨w.heap.size, 0, c.cells.size⟩, by simp [upd], by simp⟩), h1, h2, h3⟩

theorem out_alloc {o : Oper} {t nid : Nat} {ti : TI} (ho : o.op = .alloc t) (ht : TOk P t ti) (hH : HRel C φ S H w) (hu : hget H nid = .unborn) :
    Out P C φ S H w o a (.ptr nid 0 0) (hput H nid (.box false ti.zero)) := by
  obtain ⟨i, z, d, h1, h2, h3, h4, h5, h5', h6, h7, h8, h9⟩ := ht.facts
  refine out_box_gen (c := z) (t := t) ?_ ?_ hH hu
  · simp [execOp, ho, Instr.alloc, run_zeroValue' h1 h4, newVar, newRow]
  · rw [h5]
    exact ⟨by simp, fun i v c hv hc => by
      rw [List.getElem?_map, hc] at hv
      simp at hv; subst hv; exact ofVal_rel c⟩

theorem out_box {o : Oper} {t nid : Nat} {x : Operand} (ho : o.op = .box t x) (hx : (ev T x).isUndef = false) (hH : HRel C φ S H w) (hT : TRel φ S H w T a) (hu : hget H nid = .unborn) :
    Out P C φ S H w o a (.ptr nid 0 0) (hput H nid (.box false (ev T x).cells)) := by
  refine out_box_gen (c := a.eval x) (t := t) ?_ ((ev_rel hT x).cells hx) hH hu
  simp [execOp, ho, Instr.box, newVar, newRow]

theorem addr_add (B n k : Nat) : (⟨B, n, none⟩ : Addr).add k = ⟨B, n + k, none⟩ := by
  unfold Addr.add
  split
  · rename_i h; subst h; rfl
  · rfl

/-- A LOAD out of cells. -/
theorem run_load_cells {o : Oper} {t : Nat} {x : Operand} {ti : TI} (ho : o.op = .load t x) (ht : TOk P t ti) {B n : Nat} (hx : a.eval x = .pointer (some ⟨B, n, none⟩))
    (f : Nat → Value) (hc : ∀ k, k < (if ti.agg then ti.size else 1) → w.cell? ⟨B, n + k, none⟩ = some (f k)) :
    (execOp a.eval o).run P w = .ok (.value (if ti.agg then .agg ((List.range ti.size).map f).toArray else f 0)) w := by
  obtain ⟨i, z, d, h1, h2, h3, h4, h5, h5', h6, h7, h8, h9⟩ := ht.facts
  simp only [execOp, ho, Instr.loadAt, hx, Instr.sureAddr, loadVar, Sem.run_bind, Sem.run_pure, Result.andThen_ok, run_isAgg' h6]
  rw [← h7]
  cases hag : ti.agg with
  | true =>
    have hl := run_loadCells (P := P) w ⟨B, n, none⟩ ti.size f (fun j hj => by rw [addr_add]; exact hc j (by simpa [hag] using hj))
    simp [run_sizeOf' h1, h2, hl]
  | false =>
    have h0 := hc 0 (by simp [hag])
    simp at h0
    simp [h0]

/-- A load of an element of closed data. -/
theorem out_loadD {o : Oper} {t : Nat} {x : Operand} {ti : TI} (ho : o.op = .load t x) (ht : TOk P t ti) {B n j : Nat} (hx : a.eval x = .pointer (some ⟨B, n + j, none⟩)) {e : D} {v : V} {ch : Ch}
    (hl : loadD ti e j = some (True, v, ch)) (hc : ∀ (k : Nat) (y : D), e.cells[k]? = some y → ∃ c, w.cell? ⟨B, n + k, none⟩ = some c ∧ RD S w y c) (hH : HRel C φ S H w) :
    ch = .no ∧ Out P C φ S H w o a v H := by
  obtain ⟨f, hf⟩ : ∃ f : Nat → Value, ∀ (k : Nat) (y : D), e.cells[k]? = some y → w.cell? ⟨B, n + k, none⟩ = some (f k) ∧ RD S w y (f k) := by
    refine ⟨fun k => (w.cell? ⟨B, n + k, none⟩).getD undef, fun k y hy => ?_⟩
    obtain ⟨c, h1, h2⟩ := hc k y hy
    simp [h1, h2]
  unfold loadD at hl
  cases hag : ti.agg with
  | true =>
    simp only [hag, if_true] at hl
    split at hl
    · rename_i hle
      simp only [ok, Option.some.injEq, Prod.mk.injEq, true_and] at hl
      obtain ⟨rfl, rfl⟩ := hl
      refine ⟨rfl, .quiet hH (c := .agg ((List.range ti.size).map (fun k => f (j + k))).toArray) ?_ (.d _ _ (.agg _ _ (by simp; omega) ?_))⟩
      · have := run_load_cells (a := a) (w := w) ho ht hx (fun k => f (j + k)) (fun k hk => by
          have hk' : j + k < e.cells.length := by rw [if_pos hag] at hk; omega
          rw [Nat.add_assoc]
          exact (hf (j + k) _ (List.getElem?_eq_getElem hk')).1)
        simpa [hag] using this
      · intro i y c hy hc'
        rw [List.getElem?_take] at hy
        split at hy
        · rename_i hi
          rw [List.getElem?_drop] at hy
          simp [List.getElem?_map, List.getElem?_range hi] at hc'
          subst hc'
          exact (hf (j + i) y hy).2
        · cases hy
    · cases hl
  | false =>
    simp only [hag, Bool.false_eq_true, if_false] at hl
    split at hl
    · rename_i y hy
      simp only [ok, Option.some.injEq, Prod.mk.injEq, true_and] at hl
      obtain ⟨rfl, rfl⟩ := hl
      refine ⟨rfl, .quiet hH (c := f j) ?_ (.d _ _ (hf j y hy).2)⟩
      have := run_load_cells (a := a) (w := w) ho ht hx (fun k => f (j + k)) (fun k hk => by
        simp [hag] at hk; subst hk; simpa using (hf j y hy).1)
      simpa [hag] using this
    · cases hl

theorem out_load_imm {o : Oper} {t : Nat} {x : Operand} {ti : TI} (ho : o.op = .load t x) (ht : TOk P t ti) {e : D} {j : Nat} (hx : ev T x = .d (.imm e j)) {v : V} {ch : Ch}
    (hl : loadD ti e j = some (True, v, ch)) (hH : HRel C φ S H w) (hT : TRel φ S H w T a) : ch = .no ∧ Out P C φ S H w o a v H := by
  have h := ev_rel hT x
  rw [hx] at h
  generalize hc : a.eval x = c at h
  cases h with | d y c h => cases h with | imm e j B n m h1 h2 =>
    exact out_loadD ho ht hc hl (fun k y hy => ⟨m k, (h1 k y hy).2, h2 k y hy⟩) hH

theorem out_load_dat {o : Oper} {t : Nat} {x : Operand} {ti : TI} (ho : o.op = .load t x) (ht : TOk P t ti) {id i j : Nat} {fz : Bool} {sz : Nat} {els : List D} {e : D} (hx : ev T x = .ptr id i j)
    (hg : hget H id = .dat fz sz els) (he : els[i]? = some e) {v : V} {ch : Ch} (hl : loadD ti e j = some (True, v, ch)) (hH : HRel C φ S H w) (hT : TRel φ S H w T a) :
    ch = .no ∧ Out P C φ S H w o a v H := by
  have h := ev_rel hT x
  rw [hx] at h
  generalize hc : a.eval x = c at h
  cases h with | ptr id i j A hu h =>
    obtain ⟨L, hL, rfl⟩ := h sz (by rw [hg]; rfl)
    have hb := hH.blk id
    rw [hg] at hb
    rcases hb with ⟨h1, _⟩ | ⟨L', cs, t', h1, h2, h3, h4, h5, h6⟩
    · subst h1; simp at he
    · rw [hL] at h1; cases h1
      refine out_loadD ho ht hc hl (fun k y hy => ?_) hH
      obtain ⟨c', hc', hr⟩ := h5 i e k y he hy
      exact ⟨c', by rw [cell_of_row w L.blk _ cs t' (0, 0) h2.heap, Nat.add_assoc]; exact hc', hr⟩

theorem load_box_run {o : Oper} {t : Nat} {x : Operand} {ti : TI} (ho : o.op = .load t x) (ht : TOk P t ti) {id i j : Nat} {fz : Bool} {cells : List V} (hx : ev T x = .ptr id i j) (hi : i = 0)
    (hg : hget H id = .box fz cells) {v : V} (hl : if ti.agg then j + ti.size ≤ cells.length ∧ v = .agg ((cells.drop j).take ti.size) else cells[j]? = some v) (hH : HRel C φ S H w) (hT : TRel φ S H w T a) :
    ∃ c, (execOp a.eval o).run P w = .ok (.value c) w ∧ RV φ S H w v c := by
  have h := ev_rel hT x
  rw [hx] at h
  generalize hc : a.eval x = c at h
  cases h with | ptr id i j A hu h =>
    subst hi
    obtain ⟨L, hL, rfl⟩ := h cells.length (by rw [hg]; rfl)
    have hb := hH.blk id
    rw [hg] at hb
    obtain ⟨L', cs, t', h1, h2, h3, h4, h5, h6⟩ := hb
    rw [hL] at h1; cases h1
    simp only [h2, Nat.zero_mul, Nat.zero_add] at hc
    have hcell : ∀ k, w.cell? ⟨L.blk, k, none⟩ = cs[k]? := fun k => cell_of_row w L.blk k cs t' (0, 0) h3.heap
    cases hag : ti.agg with
    | true =>
      simp only [hag, if_true] at hl
      obtain ⟨hle, rfl⟩ := hl
      refine ⟨.agg ((List.range ti.size).map (fun k => cs.getD (j + k) undef)).toArray, ?_, .agg _ _ (by simp; omega) ?_⟩
      · have := run_load_cells (a := a) (w := w) ho ht hc (fun k => cs.getD (j + k) undef) (fun k hk => by
          rw [if_pos hag] at hk
          rw [hcell]
          have : j + k < cs.size := by omega
          simp [this])
        simpa [hag] using this
      · intro i y c' hy hc'
        rw [List.getElem?_take] at hy
        split at hy
        · rename_i hi
          rw [List.getElem?_drop] at hy
          simp only [List.getElem?_map, List.getElem?_range hi, Option.map_some, Option.some.injEq] at hc'
          have hlt : j + i < cs.size := by rw [← h4]; exact (List.getElem?_eq_some_iff.1 hy).1
          refine h5 (j + i) y c' hy ?_
          rw [← hc']; simp [hlt]
        · cases hy
    | false =>
      simp only [hag, Bool.false_eq_true, if_false] at hl
      have hlt : j < cs.size := by rw [← h4]; exact (List.getElem?_eq_some_iff.1 hl).1
      refine ⟨cs[j], ?_, h5 j v _ hl (by simp [hlt])⟩
      have := run_load_cells (a := a) (w := w) ho ht hc (fun k => cs.getD (j + k) undef) (fun k hk => by
        simp [hag] at hk; subst hk; rw [hcell]; simp [hlt])
      simpa [hag, hlt] using this

theorem out_load_box {o : Oper} {t : Nat} {x : Operand} {ti : TI} (ho : o.op = .load t x) (ht : TOk P t ti) {id i j : Nat} {fz : Bool} {cells : List V} (hx : ev T x = .ptr id i j) (hi : i = 0)
    (hg : hget H id = .box fz cells) {v : V} (hl : if ti.agg then j + ti.size ≤ cells.length ∧ v = .agg ((cells.drop j).take ti.size) else cells[j]? = some v) (hH : HRel C φ S H w) (hT : TRel φ S H w T a) :
    Out P C φ S H w o a v H :=
  let ⟨_, h1, h2⟩ := load_box_run ho ht hx hi hg hl hH hT
  .quiet hH h1 h2

end
end Go.Proofs.Ythpapgbpmkgfeaa.AM
