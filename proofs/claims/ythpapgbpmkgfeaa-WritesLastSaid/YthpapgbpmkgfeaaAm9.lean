/- One operation of the machine is one of the model: append; equality of structs and bools. -/
import Derived.Test.YthpapgbpmkgfeaaAm8
set_option linter.all false
namespace Go.Proofs.Ythpapgbpmkgfeaa.AM
open Go Go.RowKit

section
variable {P : Program} {E : Env} {C : Ctx} {φ φ' : Nat → Option Loc} {S S' : Nat → Prop} {H H' : Heap} {w w' : World} {T : Tmps} {a : Act}

/-- A block of which nothing more is known, and its heir. -/
theorem HRel.app (hH : HRel C φ S H w) {id nid : Nat} {fz : Bool} {sz : Nat} {els : List D} (hg : hget H id = .dat fz sz els) (hu : hget H nid = .unborn) (b : Blk) (Lo : Option Loc) {w' : World}
    (hos : w'.os = w.os) (htape : w'.tape = w.tape) (hout : w'.output = w.output) (hsz : w.heap.size ≤ w'.heap.size)
    (hkS : ∀ B, S B → w'.heap[B]? = w.heap[B]?) (hk : ∀ i L, i ≠ id → φ i = some L → w'.heap[L.blk]? = w.heap[L.blk]?) (hkp : ∀ B, B < C.n0 → ¬ C.O B → w'.heap[B]? = w.heap[B]?)
    (hLo : ∀ L', Lo = some L' → (∃ L, φ id = some L ∧ L'.blk = L.blk) ∨ w.heap.size ≤ L'.blk)
    (hb : Step φ S H w (upd (upd φ id none) nid Lo) S (hput (hput H id .dead) nid b) w' → BR (upd (upd φ id none) nid Lo) S (hput (hput H id .dead) nid b) w' nid b) :
    HRel C (upd (upd φ id none) nid Lo) S (hput (hput H id .dead) nid b) w' ∧ Step φ S H w (upd (upd φ id none) nid Lo) S (hput (hput H id .dead) nid b) w' ∧ Kp C w w' := by
  have hne : nid ≠ id := fun e => by rw [e, hg] at hu; cases hu
  have hs : Step φ S H w (upd (upd φ id none) nid Lo) S (hput (hput H id .dead) nid b) w' := ⟨fun B h _ => ⟨h, hkS B h⟩, fun i hi => by
    have hin : i ≠ nid := fun e => hi (by rw [e]; exact hu)
    rw [hget_hput, if_neg hin, hget_hput]
    by_cases e : i = id
    · rw [if_pos e]; exact .inl rfl
    · rw [if_neg e]
      by_cases hd : hget H i = .dead
      · exact .inl hd
      · exact .inr ⟨.refl hi hd, by simp [upd, hin, e]⟩⟩
  refine ⟨⟨Nat.le_trans hH.n0 hsz, ?_, hH.vis, ?_, ?_, fun B hB => Nat.lt_of_lt_of_le (hH.low B hB) hsz⟩, hs, ⟨hos, htape, hout, hsz, hkp⟩⟩
  · intro i L h
    by_cases e : i = nid
    · subst e; simp [upd] at h
      rcases hLo L h with ⟨L0, h0, e⟩ | h0
      · rw [e]; exact hH.own id L0 h0
      · exact .inr (Nat.le_trans hH.n0 h0)
    · by_cases e2 : i = id
      · subst e2; simp [upd, e] at h
      · simp [upd, e, e2] at h; exact hH.own i L h
  · have key : ∀ i L L', i ≠ nid → i ≠ id → φ i = some L → Lo = some L' → L.blk = L'.blk → False := fun i L L' h1 h2 h3 h4 h5 => by
      rcases hLo L' h4 with ⟨L0, h0, e⟩ | h0
      · exact h2 (hH.inj i id L L0 h3 h0 (h5.trans e))
      · have := hH.lt h3; omega
    intro i i' L L' h h' e
    by_cases h1 : i = nid <;> by_cases h2 : i' = nid
    · rw [h1, h2]
    · by_cases h3 : i' = id
      · subst h3; simp [upd, h2] at h'
      · subst h1; simp [upd] at h; simp [upd, h2, h3] at h'
        exact (key i' L' L h2 h3 h' h e.symm).elim
    · by_cases h3 : i = id
      · subst h3; simp [upd, h1] at h
      · subst h2; simp [upd] at h'; simp [upd, h1, h3] at h
        exact (key i L L' h1 h3 h h' e).elim
    · by_cases h3 : i = id
      · subst h3; simp [upd, h1] at h
      · by_cases h4 : i' = id
        · subst h4; simp [upd, h2] at h'
        · simp [upd, h1, h3] at h; simp [upd, h2, h4] at h'; exact hH.inj i i' L L' h h' e
  · intro i
    rw [hget_hput]
    by_cases h1 : i = nid
    · rw [if_pos h1, h1]; exact hb hs
    · rw [if_neg h1, hget_hput]
      by_cases h2 : i = id
      · rw [if_pos h2]; simp [BR, upd, h2]
        intro e; exact absurd e.symm hne
      · rw [if_neg h2]
        exact (hH.blk i).keep hs (by simp [upd, h1, h2]) (fun L hL => ⟨hk i L h2 hL, Iff.rfl⟩)

/-- A block that is not there: no element. -/
theorem HRel.virt (hH : HRel C φ S H w) {nid : Nat} (hu : hget H nid = .unborn) (sz : Nat) : HRel C φ S (hput H nid (.dat false sz [])) w ∧ Step φ S H w φ S (hput H nid (.dat false sz [])) w := by
  have hφ : φ nid = none := by have := hH.blk nid; rw [hu] at this; exact this
  have hs : Step φ S H w φ S (hput H nid (.dat false sz [])) w := ⟨.refl _ _, fun i hi => by
    have hin : i ≠ nid := fun e => hi (by rw [e]; exact hu)
    rw [hget_hput, if_neg hin]
    by_cases hd : hget H i = .dead
    · exact .inl hd
    · exact .inr ⟨.refl hi hd, rfl⟩⟩
  refine ⟨⟨hH.n0, hH.own, hH.vis, hH.inj, fun i => ?_, hH.low⟩, hs⟩
  rw [hget_hput]
  by_cases e : i = nid
  · rw [if_pos e, e]; exact .inl ⟨rfl, hφ⟩
  · rw [if_neg e]; exact (hH.blk i).keep hs rfl (fun L _ => ⟨rfl, Iff.rfl⟩)

theorem run_append_call {o : Oper} {c : Call} {x y : Operand} {t u : Nat} (ho : o.op = .call c) (hc : c.callee = .builtin .append) (hargs : c.args.toList = [x, y]) (htys : c.argTypes.toList = [t, u]) {r : Value}
    (h : (Builtin.append_ #[t, u] o.type #[a.eval x, a.eval y]).run P w = .ok r w') : (execOp a.eval o).run P w = .ok (.value r) w' := by
  have e1 : c.args = #[x, y] := by rw [← hargs]
  have e2 : c.argTypes = #[t, u] := by rw [← htys]
  simp [execOp, ho, resolve, hc, e1, e2, invoke, builtin, h]

theorem run_append_zero {t ty e : TypeId} {i : TypeInfo} (ht : P.underlying t = some (.slice e)) (hi : P.info? e = some i) (A B : Option Addr) (len cap c : Nat) (hle : len ≤ cap) :
    (Builtin.append_ #[t, t] ty #[.slice A len cap, .slice B 0 c]).run P w = .ok (.slice A len cap) w := by
  have hf : (Builtin.firstCells i.size 0 (.slice B 0 c)).run P w = .ok #[] w := by
    cases B with
    | none => simp [Builtin.firstCells]
    | some b => simp [Builtin.firstCells, loadCells, loadCellsFrom]
  cases A with
  | none => simp [Builtin.append_, run_underlying ht, sizeOf, typeInfo, hi, Builtin.lenOf, hle, hf]
  | some b => simp [Builtin.append_, run_underlying ht, sizeOf, typeInfo, hi, Builtin.lenOf, hle, hf, storeCells]

theorem run_append_in {t ty e : TypeId} {i : TypeInfo} (ht : P.underlying t = some (.slice e)) (hi : P.info? e = some i) {g o len cap n c : Nat} {cur : Array Value} {tt : TypeId} (hg : w.heap[g]? = some (.cells cur tt (0, 0)))
    {b : Addr} {news : List Value} (hl : news.length = n * i.size) (hnews : ∀ j u, news[j]? = some u → w.cell? (b.add j) = some u) (h1 : ∀ u ∈ news, u.oneCell' = true)
    (hroom : len + n ≤ cap) (hfit : o + len * i.size + news.length ≤ cur.size) :
    (Builtin.append_ #[t, t] ty #[.slice (some ⟨g, o, none⟩) len cap, .slice (some b) n c]).run P w =
      .ok (.slice (some ⟨g, o, none⟩) (len + n) cap) (w.setRow g (splice cur.toList (o + len * i.size) news).toArray) := by
  have hf := run_firstCells_some (P := P) w i.size n b n c news hl hnews
  have hst := run_storeCells_at P g (o + len * i.size) tt news 0 cur w hg (by simpa using hfit) h1
  simp only [Nat.add_zero] at hst
  simp [Builtin.append_, run_underlying ht, sizeOf, typeInfo, hi, Builtin.lenOf, hroom, hf, addr_add, hst, splice]

/-- Elements, and their cells in a row. -/
structure Flat (S : Nat → Prop) (w : World) (sz : Nat) (es : List D) (vals : List Value) : Prop where
  wide : ∀ e ∈ es, e.cells.length = sz
  len : vals.length = es.length * sz
  at_ : ∀ (i : Nat) (e : D) (k : Nat) (x : D), es[i]? = some e → e.cells[k]? = some x → ∃ y, vals[i * sz + k]? = some y ∧ RD S w x y

theorem Flat.append {sz : Nat} {xs ys : List D} {us vs : List Value} (h : Flat S w sz xs us) (h' : Flat S w sz ys vs) : Flat S w sz (xs ++ ys) (us ++ vs) := by
  refine ⟨fun e he => ?_, by simp [h.len, h'.len, Nat.add_mul], fun i e k x he hx => ?_⟩
  · rcases List.mem_append.1 he with he | he
    · exact h.wide e he
    · exact h'.wide e he
  · rw [List.getElem?_append] at he
    split at he
    · rename_i hi
      obtain ⟨y, hy, hr⟩ := h.at_ i e k x he hx
      exact ⟨y, by rw [List.getElem?_append, if_pos (List.getElem?_eq_some_iff.1 hy).1]; exact hy, hr⟩
    · rename_i hi
      obtain ⟨y, hy, hr⟩ := h'.at_ _ e k x he hx
      have hle : xs.length * sz ≤ i * sz := Nat.mul_le_mul_right _ (by omega)
      have e1 : i * sz + k - us.length = (i - xs.length) * sz + k := by rw [h.len, Nat.sub_mul]; omega
      refine ⟨y, ?_, hr⟩
      rw [List.getElem?_append, if_neg (by rw [h.len]; omega), e1]; exact hy

theorem Flat.keep {sz : Nat} {es : List D} {vals : List Value} (hk : KeepS S w S' w') (h : Flat S w sz es vals) : Flat S' w' sz es vals :=
  ⟨h.wide, h.len, fun i e k x he hx => by obtain ⟨y, hy, hr⟩ := h.at_ i e k x he hx; exact ⟨y, hy, hr.keep hk⟩⟩

theorem Flat.one {sz : Nat} {es : List D} {vals : List Value} (h : Flat S w sz es vals) (hok : ∀ e ∈ es, okEl sz e = true) : ∀ v ∈ vals, v.oneCell' = true := by
  intro v hv
  obtain ⟨j, hj⟩ := List.mem_iff_getElem?.1 hv
  have hlt : j < es.length * sz := by rw [← h.len]; exact (List.getElem?_eq_some_iff.1 hj).1
  have hpos : 0 < sz := by
    rcases Nat.eq_zero_or_pos sz with h0 | h0
    · rw [h0] at hlt; simp at hlt
    · exact h0
  have hq : j / sz < es.length := (Nat.div_lt_iff_lt_mul hpos).2 hlt
  have he := h.wide _ (List.getElem_mem hq)
  have hm : j % sz < es[j / sz].cells.length := by rw [he]; exact Nat.mod_lt _ hpos
  obtain ⟨y, hy, hr⟩ := h.at_ (j / sz) es[j / sz] (j % sz) _ (List.getElem?_eq_getElem hq) (List.getElem?_eq_getElem hm)
  rw [show j / sz * sz + j % sz = j by rw [Nat.mul_comm]; exact Nat.div_add_mod j sz, hj] at hy
  cases hy
  have hone := hok _ (List.getElem_mem hq)
  simp only [okEl, Bool.and_eq_true] at hone
  exact (RV.d (φ := fun _ => none) (S := S) (H := []) (w := w) _ _ hr).one_inv (List.all_eq_true.1 hone.2 _ (List.getElem_mem hm))

/-- WHAT IS APPENDED TO A SLICE OF THE CALL's OWN. -/
theorem out_append_own {o : Oper} {c : Call} {x y : Operand} {t nid id off len sz : Nat} {eti : TI} {els ys : List D} (ho : o.op = .call c) (hc : c.callee = .builtin .append) (hargs : c.args.toList = [x, y]) (htys : c.argTypes.toList = [t, t])
    (hE : EOk P E) (hs : sliceOf E t = some eti) (hx : ev T x = .own id off len) (hg : hget H id = .dat false sz els) (hsz : sz = eti.size) (hy : elems H (ev T y) = some ys) (hb1 : 1 ≤ eti.bytes)
    (hbytes : (len + ys.length) * eti.bytes ≤ 140737488355328) (hok : ∀ e ∈ ys, okEl eti.size e = true) (hu : hget H nid = .unborn) (hH : HRel C φ S H w) (hT : TRel φ S H w T a) :
    Out P C φ S H w o a (.own nid 0 (len + ys.length)) (hput (hput H id .dead) nid (.dat false sz ((els.drop off).take len ++ ys))) := by
  obtain ⟨e, h1, h2, _⟩ := sliceOf_spec hE hs
  obtain ⟨i, z, d, g1, g2, g3, g4, g5, g5', g6, g7, g8, g9⟩ := h2.facts
  have hne : nid ≠ id := fun e => by rw [e, hg] at hu; cases hu
  have hsame : SameShape (.dat false sz els) (.dat false sz els) := ⟨rfl, Nat.le_refl _⟩
  subst hsz
  have hx' := ev_rel hT x
  rw [hx] at hx'
  have hy' := ev_rel hT y
  obtain ⟨B, cy, ey, szy, vals, k1, k2, k3, k4⟩ := elems_rel hH hy' hy
  generalize hcx : a.eval x = cx at hx'
  have hlenys : ∀ e ∈ ys, e.cells.length = eti.size := fun e he => by have := hok e he; simp [okEl] at this; exact this.1
  have honeys : ∀ e ∈ ys, ∀ d ∈ e.cells, (V.d d).one = true := fun e he => by have := hok e he; simp [okEl] at this; exact this.2
  cases hx' with | own _ _ _ l cap A hub hh =>
    obtain ⟨r1, rfl, r2, r3⟩ := hh false eti.size els hg
    have hget : ∀ (j : Nat) (e : D), ((els.drop off).take l)[j]? = some e → els[off + j]? = some e := fun j e he => by
      rw [List.getElem?_take] at he
      split at he
      · rwa [List.getElem?_drop] at he
      · cases he
    have hlen1 : ((els.drop off).take l).length = l := by simp; omega
    have hown : ∀ {Lo : Option Loc} {A' : Option Addr} {cap' : Nat}, l + ys.length ≤ cap' → (cap' = 0 ∨ ∃ L, Lo = some L ∧ A' = some ⟨L.blk, L.off, none⟩ ∧ L.off + cap' * eti.size ≤ L.n) →
        RV (upd (upd φ id none) nid Lo) S (hput (hput H id .dead) nid (.dat false eti.size ((els.drop off).take l ++ ys))) w (.own nid 0 (l + ys.length)) (.slice A' (l + ys.length) cap') := fun {Lo A' cap'} hle hcap => by
      refine .own _ _ _ _ _ _ (by rw [hget_hput]; simp) (fun fz sz' els' hg' => ?_)
      rw [hget_hput] at hg'; simp at hg'
      obtain ⟨rfl, rfl, rfl⟩ := hg'
      refine ⟨by simp; omega, rfl, hle, ?_⟩
      rcases hcap with h | ⟨L, hL, hA, hfit⟩
      · exact .inl h
      · exact .inr ⟨L, by simp [upd, hL], by simp [hA], by simpa using hfit⟩
    have hbr := hH.blk id
    rw [hg] at hbr
    by_cases hn0 : ys.length = 0
    · -- nothing is appended
      have hys : ys = [] := List.eq_nil_of_length_eq_zero hn0
      subst hys
      have hrun := run_append_call (w := w) ho hc hargs htys (by rw [hcx, ey]; exact run_append_zero h1 g1 A B l cap cy r2)
      simp only [List.length_nil, Nat.add_zero, List.append_nil] at hown ⊢
      rcases r3 with hcap | ⟨L, hL, rfl, hfit⟩
      · -- no room: no block
        have hl0 : l = 0 := by omega
        subst hl0
        obtain ⟨q1, q2, q3⟩ := hH.app hg hu (.dat false eti.size ((els.drop off).take 0)) none (w' := w) rfl rfl rfl (Nat.le_refl _) (fun _ _ => rfl) (fun _ _ _ _ => rfl) (fun _ _ _ => rfl) (fun L' h => by cases h)
          (fun _ => .inl ⟨by simp, by simp [upd]⟩)
        exact ⟨_, _, _, .inl hrun, hown (Nat.zero_le _) (.inl hcap), q1, q2, q3⟩
      · obtain ⟨q1, q2, q3⟩ := hH.app hg hu (.dat false eti.size ((els.drop off).take l)) (some ⟨L.blk, L.off + off * eti.size, L.n⟩) (w' := w) rfl rfl rfl (Nat.le_refl _) (fun _ _ => rfl) (fun _ _ _ _ => rfl) (fun _ _ _ => rfl)
          (fun L' h => by cases h; exact .inl ⟨L, hL, rfl⟩)
          (fun hst => by
            rcases hbr with ⟨hn, hnone⟩ | ⟨L', cs, t', s1, s2, s3, s4, s5, s6⟩
            · rw [hL] at hnone; cases hnone
            · rw [hL] at s1; cases s1
              refine .inr ⟨⟨L.blk, L.off + off * eti.size, L.n⟩, cs, t', by simp [upd], ⟨s2.heap, s2.size⟩, fun e he => s3 e (List.mem_of_mem_drop (List.mem_of_mem_take he)), ?_, fun j e k x he hxx => ?_, s6⟩
              · rw [hlen1]
                have : (off + l) * eti.size ≤ els.length * eti.size := Nat.mul_le_mul_right _ r1
                rw [Nat.add_mul] at this
                show L.off + off * eti.size + l * eti.size ≤ cs.size
                omega
              · obtain ⟨c', hc1, hc2⟩ := s5 (off + j) e k x (hget j e he) hxx
                refine ⟨c', ?_, hc2.keep hst.keepS⟩
                rw [Nat.add_mul, Nat.add_assoc] at hc1
                show cs[L.off + off * eti.size + (j * eti.size + k)]? = some c'
                rw [Nat.add_assoc]; exact hc1)
        exact ⟨_, _, _, .inl hrun, hown r2 (.inr ⟨_, rfl, rfl, by rw [Nat.add_mul] at hfit; show L.off + off * eti.size + cap * eti.size ≤ L.n; omega⟩), q1, q2, q3⟩
    · have hyne : ys ≠ [] := fun e => hn0 (by simp [e])
      obtain ⟨By, oy, hBy, hcells⟩ := k3 hyne
      obtain ⟨e0, he0⟩ := List.exists_mem_of_ne_nil ys hyne
      have hszy : szy = eti.size := by rw [← k1 e0 he0]; exact hlenys e0 he0
      subst hszy
      subst hBy
      have hnews : ∀ (j : Nat) (u : Value), vals[j]? = some u → w.cell? ((⟨By, oy, none⟩ : Addr).add j) = some u := fun j u hj => by rw [addr_add]; exact hcells j u hj
      have hflat : Flat S w eti.size ys vals := ⟨hlenys, k2, k4⟩
      have hone := hflat.one hok
      by_cases hroom : l + ys.length ≤ cap
      · -- in place
        rcases r3 with hcap | ⟨L, hL, rfl, hfit⟩
        · omega
        rcases hbr with ⟨hn, hnone⟩ | ⟨L', cs, t', s1, s2, s3, s4, s5, s6⟩
        · rw [hL] at hnone; cases hnone
        rw [hL] at s1; cases s1
        have hmul : (l + ys.length) * eti.size ≤ cap * eti.size := Nat.mul_le_mul_right _ hroom
        rw [Nat.add_mul] at hmul
        rw [Nat.add_mul, s2.size] at hfit
        have hfit' : L.off + off * eti.size + l * eti.size + vals.length ≤ cs.size := by rw [k2]; omega
        have hrun := run_append_call (w := w) ho hc hargs htys (by rw [hcx, ey]; exact run_append_in (cap := cap) h1 g1 s2.heap (by rw [k2, g2]) hnews hone hroom (by rw [g2]; exact hfit'))
        rw [g2] at hrun
        have hS : ¬ S L.blk := fun h => by simpa using s6.1 h
        have hsz' : (splice cs.toList (L.off + off * eti.size + l * eti.size) vals).toArray.size = cs.size := by
          rw [List.size_toArray, splice_length _ _ _ (by simpa using hfit')]; simp
        obtain ⟨q1, q2, q3⟩ := hH.app hg hu (.dat false eti.size ((els.drop off).take l ++ ys)) (some ⟨L.blk, L.off + off * eti.size, L.n⟩) (w' := w.setRow L.blk (splice cs.toList (L.off + off * eti.size + l * eti.size) vals).toArray)
          rfl rfl rfl (by simp) (fun B hB => setRow_other w L.blk B _ (fun e => hS (e ▸ hB))) (fun i L2 hi hL2 => setRow_other w L.blk _ _ (fun e => hi (hH.inj i id L2 L hL2 hL e)))
          (fun B hB hO => setRow_other w L.blk B _ (fun e => by rcases hH.own id L hL with h | h <;> first | exact hO (e ▸ h) | omega))
          (fun L' h => by cases h; exact .inl ⟨L, hL, rfl⟩)
          (fun hst => by
            refine .inr ⟨⟨L.blk, L.off + off * eti.size, L.n⟩, _, t', by simp [upd], ⟨setRow_heap w L.blk cs _ t' (0, 0) s2.heap, s2.size.trans hsz'.symm⟩, fun e he => ?_, ?_, fun i e k x he hx => ?_, s6⟩
            · rcases List.mem_append.1 he with he | he
              · exact s3 e (List.mem_of_mem_drop (List.mem_of_mem_take he))
              · exact hlenys e he
            · rw [hsz', List.length_append, hlen1, Nat.add_mul]
              show L.off + off * eti.size + (l * eti.size + ys.length * eti.size) ≤ cs.size
              omega
            · show ∃ c, (splice cs.toList (L.off + off * eti.size + l * eti.size) vals).toArray[L.off + off * eti.size + (i * eti.size + k)]? = some c ∧ _
              rw [List.getElem?_toArray, splice_get _ _ _ (by simpa using hfit')]
              have hk : k < eti.size := by
                have := (List.getElem?_eq_some_iff.1 hx).1
                rcases List.mem_append.1 (List.mem_of_getElem? he) with h | h
                · rwa [s3 e (List.mem_of_mem_drop (List.mem_of_mem_take h))] at this
                · rwa [hlenys e h] at this
              rw [List.getElem?_append] at he
              split at he
              · rename_i hi
                rw [hlen1] at hi
                have : (i + 1) * eti.size ≤ l * eti.size := Nat.mul_le_mul_right _ hi
                rw [Nat.add_mul, Nat.one_mul] at this
                rw [if_neg (by omega)]
                obtain ⟨c', hc1, hc2⟩ := s5 (off + i) e k x (hget i e he) hx
                refine ⟨c', ?_, hc2.keep hst.keepS⟩
                rw [Nat.add_mul, Nat.add_assoc] at hc1
                rw [Nat.add_assoc]; simpa using hc1
              · rename_i hi
                rw [hlen1] at hi he
                obtain ⟨y', hy1, hy2⟩ := k4 (i - l) e k x he hx
                have hle : l * eti.size ≤ i * eti.size := Nat.mul_le_mul_right _ (by omega)
                rw [Nat.sub_mul] at hy1
                have hlt := (List.getElem?_eq_some_iff.1 hy1).1
                rw [if_pos (by omega)]
                refine ⟨y', ?_, hy2.keep hst.keepS⟩
                rw [← hy1]; congr 1; omega)
        refine ⟨_, _, _, .inl hrun, ?_, q1, q2, q3⟩
        have hv := hown (Lo := some ⟨L.blk, L.off + off * eti.size, L.n⟩) (A' := some ⟨L.blk, L.off + off * eti.size, none⟩) hroom (.inr ⟨_, rfl, rfl, by rw [s2.size]; show L.off + off * eti.size + cap * eti.size ≤ cs.size; omega⟩)
        cases hv with | own _ _ _ _ _ _ u1 u2 => exact .own _ _ _ _ _ _ u1 u2
      · -- into a new block
        have hexO : elems H (.own id off l) = some ((els.drop off).take l) := by simp [elems, hg]
        have hxr : RV φ S H w (.own id off l) (.slice A l cap) := by
          have := ev_rel hT x
          rwa [hx, hcx] at this
        obtain ⟨A0, cap0, eA, szo, olds, m1, m2, m3, m4⟩ := elems_rel hH hxr hexO
        injection eA with eA1 _ eA3
        subst eA1; subst eA3
        have hszels : ∀ e ∈ (els.drop off).take l, e.cells.length = eti.size := fun e he => by
          rcases hbr with ⟨hn, _⟩ | ⟨L', cs, t', s1, s2, s3, s4, s5, s6⟩
          · subst hn; simp at he
          · exact s3 e (List.mem_of_mem_drop (List.mem_of_mem_take he))
        have hflatO : Flat S w eti.size ((els.drop off).take l) olds := by
          by_cases h0 : (els.drop off).take l = []
          · refine ⟨hszels, ?_, fun i e k x he => by rw [h0] at he; simp at he⟩
            rw [h0] at m2 ⊢; simpa using m2
          · obtain ⟨e1, he1⟩ := List.exists_mem_of_ne_nil _ h0
            have : szo = eti.size := by rw [← m1 e1 he1]; exact hszels e1 he1
            subst this
            exact ⟨hszels, m2, m4⟩
        have hz1 : z.cells.size = i.size := g5'.trans g2.symm
        have hbound : l + ys.length ≤ 9223372036854775807 := by
          have : (l + ys.length) * 1 ≤ (l + ys.length) * eti.bytes := Nat.mul_le_mul_left _ hb1
          omega
        have hfits : Builtin.nextslicecap (l + ys.length) cap * i.bytes ≤ 281474976710656 := growslice_fits (by omega) (by rw [g3]; exact hbytes)
        have hrun : (execOp a.eval o).run P w = .ok (.value (.slice (some ⟨w.heap.size, 0, none⟩) (l + ys.length) (grownCap w (l + ys.length) cap e)))
            (w.drew.alloc (.cells (olds.toArray ++ vals.toArray ++ Builtin.zeroCells z.cells (grownCap w (l + ys.length) cap e - (l + ys.length))) e)) := by
          refine run_append_call ho hc hargs htys ?_
          rw [hcx, ey]
          cases A with
          | none =>
            rcases r3 with hcap | ⟨L, _, h, _⟩
            · have hl0 : l = 0 := by omega
              subst hl0; subst hcap
              have ho : olds = [] := List.eq_nil_of_length_eq_zero (by rw [hflatO.len]; simp)
              subst ho
              have := run_append_nil (P := P) w t o.type e i z h1 g1 g4 ⟨By, oy, none⟩ ys.length cy vals (by rw [k2, g2]) hnews (by omega) (by omega) (by rw [g3]; have := hbytes; simp only [Nat.zero_add] at this; omega)
              simpa using this
            · cases h
          | some b =>
            refine run_append_grow (P := P) w t o.type e i z h1 g1 g4 b l cap olds (by rw [hflatO.len, hlen1, g2]) (fun j v hj => ?_) ⟨By, oy, none⟩ ys.length cy vals (by rw [k2, g2]) hnews (by omega) (by omega) hfits
            have hne0 : (els.drop off).take l ≠ [] := fun h0 => by
              have := hflatO.len; rw [h0] at this; simp at this; subst this; simp at hj
            obtain ⟨Bo, oo, hBo, hco⟩ := m3 hne0
            cases hBo
            rw [addr_add]; exact hco j v hj
        have hge := grownCap_ge w (l + ys.length) cap e
        have hcssz : (olds.toArray ++ vals.toArray ++ Builtin.zeroCells z.cells (grownCap w (l + ys.length) cap e - (l + ys.length))).size = grownCap w (l + ys.length) cap e * eti.size := by
          simp only [Array.size_append, List.size_toArray, size_zeroCells, hz1, g2, hflatO.len, hlen1, k2]
          rw [← Nat.add_mul, ← Nat.add_mul]; congr 1; omega
        obtain ⟨q1, q2, q3⟩ := hH.app hg hu (.dat false eti.size ((els.drop off).take l ++ ys)) (some ⟨w.heap.size, 0, grownCap w (l + ys.length) cap e * eti.size⟩)
          (w' := w.drew.alloc (.cells (olds.toArray ++ vals.toArray ++ Builtin.zeroCells z.cells (grownCap w (l + ys.length) cap e - (l + ys.length))) e))
          rfl rfl rfl (by simp) (fun B hB => heap_alloc_old w.drew _ (by simpa using hH.low B hB)) (fun i L2 hi hL2 => heap_alloc_old w.drew _ (by simpa using hH.lt hL2))
          (fun B hB _ => heap_alloc_old w.drew _ (by have := hH.n0; simp; omega)) (fun L' h => by cases h; exact .inr (Nat.le_refl _))
          (fun hst => by
            have hfl := (hflatO.append hflat).keep hst.keepS
            refine .inr ⟨⟨w.heap.size, 0, grownCap w (l + ys.length) cap e * eti.size⟩, _, e, by simp [upd], ⟨heap_alloc_new w.drew _, hcssz.symm⟩, hfl.wide, ?_, fun i e' k x he hx => ?_, ?_⟩
            · rw [hcssz, List.length_append, hlen1]
              have : (l + ys.length) * eti.size ≤ grownCap w (l + ys.length) cap e * eti.size := Nat.mul_le_mul_right _ hge
              simpa using this
            · obtain ⟨y', hy1, hy2⟩ := hfl.at_ i e' k x he hx
              refine ⟨y', ?_, hy2⟩
              have hlt := (List.getElem?_eq_some_iff.1 hy1).1
              rw [show (⟨w.heap.size, 0, grownCap w (l + ys.length) cap e * eti.size⟩ : Loc).off + (i * eti.size + k) = i * eti.size + k by simp]
              rw [Array.getElem?_append, if_pos (by simpa using hlt)]
              simpa using hy1
            · constructor
              · intro h; have := hH.low _ h; simp at this
              · intro h; cases h)
        refine ⟨_, _, _, .inl hrun, ?_, q1, q2, q3⟩
        have hv := hown (Lo := some ⟨w.heap.size, 0, grownCap w (l + ys.length) cap e * eti.size⟩) (A' := some ⟨w.heap.size, 0, none⟩) hge (.inr ⟨_, rfl, rfl, by simp⟩)
        cases hv with | own _ _ _ _ _ _ u1 u2 => exact .own _ _ _ _ _ _ u1 u2

theorem kept_setRow {g : Nat} {cs : Array Value} {B : Nat} (h : B ≠ g) : (w.setRow g cs).heap[B]? = w.heap[B]? := setRow_other w g B cs h

end
end Go.Proofs.Ythpapgbpmkgfeaa.AM
