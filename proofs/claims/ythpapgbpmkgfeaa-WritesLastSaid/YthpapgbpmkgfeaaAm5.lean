/- One operation of the machine is one of the model: stores, addresses, slices, literals. -/
import Derived.Test.YthpapgbpmkgfeaaAm4
set_option linter.all false
namespace Go.Proofs.Ythpapgbpmkgfeaa.AM
open Go Go.RowKit

section
variable {P : Program} {E : Env} {C : Ctx} {φ φ' : Nat → Option Loc} {S S' : Nat → Prop} {H H' : Heap} {w w' : World} {T : Tmps} {a : Act}

theorem splice_length {α : Type} (l : List α) (j : Nat) (xs : List α) (h : j + xs.length ≤ l.length) : (splice l j xs).length = l.length := by
  simp [splice]; omega

theorem splice_get {α : Type} (l : List α) (j : Nat) (xs : List α) (h : j + xs.length ≤ l.length) (k : Nat) :
    (splice l j xs)[k]? = if j ≤ k ∧ k < j + xs.length then xs[k - j]? else l[k]? := by
  unfold splice
  rw [List.getElem?_append, List.getElem?_append]
  simp only [List.length_append, List.length_take, List.getElem?_take, List.getElem?_drop]
  have hm : min j l.length = j := by omega
  rw [hm]
  by_cases h1 : k < j
  · rw [if_pos (by omega), if_pos h1, if_pos h1, if_neg (by omega)]
  · by_cases h2 : k < j + xs.length
    · rw [if_pos h2, if_neg h1, if_pos ⟨by omega, h2⟩]
    · rw [if_neg h2, if_neg (by omega)]
      congr 1; omega

/-- A block of the call's own is written. -/
theorem HRel.write (hH : HRel C φ S H w) {id : Nat} {L : Loc} {cs cs' : Array Value} {t : Nat} (hL : φ id = some L) (_hat : At w L cs t) (hS : ¬ S L.blk) (_hsz : cs'.size = cs.size) (b : Blk)
    (hsh : SameShape (hget H id) b) (hb : Step φ S H w φ S (hput H id b) (w.setRow L.blk cs') → BR φ S (hput H id b) (w.setRow L.blk cs') id b) :
    HRel C φ S (hput H id b) (w.setRow L.blk cs') ∧ Step φ S H w φ S (hput H id b) (w.setRow L.blk cs') ∧ Kp C w (w.setRow L.blk cs') := by
  have hs : Step φ S H w φ S (hput H id b) (w.setRow L.blk cs') := ⟨fun B h _ => ⟨h, setRow_other w L.blk B cs' (fun e => hS (e ▸ h))⟩, fun i hi => by
    rw [hget_hput]
    by_cases e : i = id
    · subst e; rw [if_pos rfl]; exact .inr ⟨hsh, rfl⟩
    · rw [if_neg e]
      by_cases hd : hget H i = .dead
      · exact .inl hd
      · exact .inr ⟨.refl hi hd, rfl⟩⟩
  refine ⟨⟨?_, hH.own, hH.vis, hH.inj, ?_, ?_⟩, hs, ⟨rfl, rfl, rfl, by simp, fun B hB hO => ?_⟩⟩
  · simpa using hH.n0
  · intro i
    rw [hget_hput]
    by_cases e : i = id
    · rw [if_pos e, e]; exact hb hs
    · rw [if_neg e]
      exact (hH.blk i).keep hs rfl (fun L' hL' => ⟨setRow_other w L.blk _ cs' (fun e' => e (hH.inj i id L' L hL' hL e')), Iff.rfl⟩)
  · intro B hB; simpa using hH.low B hB
  · refine setRow_other w L.blk B cs' (fun e => ?_)
    rcases hH.own id L hL with h | h
    · exact hO (e ▸ h)
    · omega

theorem run_store_cells {o : Oper} {t : Nat} {x y : Operand} {ti : TI} (ho : o.op = .store t x y) (ht : TOk P t ti) {B n : Nat} (hx : a.eval x = .pointer (some ⟨B, n, none⟩)) {cs : Array Value} {ty : Nat}
    (hB : w.heap[B]? = some (.cells cs ty (0, 0))) (hsz : (a.eval y).cells.size = ti.size) (hfit : n + ti.size ≤ cs.size) (h1 : ∀ v ∈ (a.eval y).cells.toList, v.oneCell' = true) :
    (execOp a.eval o).run P w = .ok .skip (w.setRow B (splice cs.toList n (a.eval y).cells.toList).toArray) := by
  obtain ⟨i, z, d, h2, h3, _⟩ := ht.facts
  have hst := run_storeCells_at P B n ty (a.eval y).cells.toList 0 cs w hB (by simp [hsz]; omega) h1
  simp only [Nat.add_zero] at hst
  simp [execOp, ho, Instr.storeAt, hx, Instr.sureAddr, storeVar, run_sizeOf' h2, h3, hsz, hst, splice]

theorem out_store_box {o : Oper} {t : Nat} {x y : Operand} {ti : TI} (ho : o.op = .store t x y) (ht : TOk P t ti) {id j : Nat} {cells : List V} (hx : ev T x = .ptr id 0 j) (hg : hget H id = .box false cells)
    (hsz : (ev T y).cells.length = ti.size) (h1 : (ev T y).cells.all V.one = true) (hfit : j + ti.size ≤ cells.length) (hu : (ev T y).isUndef = false) (hH : HRel C φ S H w) (hT : TRel φ S H w T a) :
    Out P C φ S H w o a (.d .undef) (hput H id (.box false (splice cells j (ev T y).cells))) := by
  have h := ev_rel hT x
  rw [hx] at h
  generalize hc : a.eval x = c at h
  have hy := (ev_rel hT y).cells hu
  cases h with | ptr id i j A hub h =>
    obtain ⟨L, hL, rfl⟩ := h cells.length (by rw [hg]; rfl)
    have hb := hH.blk id
    rw [hg] at hb
    obtain ⟨L', cs, t', h1', h2, h3, h4, h5, h6⟩ := hb
    rw [hL] at h1'; cases h1'
    simp only [h2, Nat.zero_mul, Nat.zero_add] at hc
    have hone : ∀ v ∈ (a.eval y).cells.toList, v.oneCell' = true := fun v hv => by
      obtain ⟨k, hk⟩ := List.mem_iff_getElem?.1 hv
      have hk' : k < (ev T y).cells.length := by rw [hy.len]; exact (List.getElem?_eq_some_iff.1 hk).1
      exact (hy.at_ k _ v (List.getElem?_eq_getElem hk') hk).one_inv (List.all_eq_true.1 h1 _ (List.getElem_mem hk'))
    have hszc : (a.eval y).cells.size = ti.size := by have := hy.len; simp at this; omega
    have hr := run_store_cells (w := w) ho ht hc h3.heap hszc (by omega) hone
    have hsz' : (splice cs.toList j (a.eval y).cells.toList).toArray.size = cs.size := by
      rw [List.size_toArray, splice_length _ _ _ (by simp; omega)]; simp
    obtain ⟨r1, r2, r3⟩ := hH.write hL h3 (fun hs => by simpa using h6.1 hs) hsz' (.box false (splice cells j (ev T y).cells))
      (by rw [hg]; simp only [SameShape]; rw [splice_length _ _ _ (by omega)])
      (fun hs => ⟨L, _, t', hL, h2, ⟨setRow_heap w L.blk cs _ t' (0, 0) h3.heap, h3.size.trans hsz'.symm⟩, by rw [hsz', splice_length _ _ _ (by omega)]; exact h4, fun k v c hk hcv => by
        have hrel : RVs φ S H w (splice cells j (ev T y).cells) (splice cs.toList j (a.eval y).cells.toList) :=
          RVs.splice ⟨by simpa using h4, fun k v c hk hcv => h5 k v c hk (by simpa using hcv)⟩ hy j
        exact (hrel.at_ k v c hk (by simpa using hcv)).step hs, h6⟩)
    exact ⟨_, _, φ, .inr ⟨hr, rfl⟩, .d _ _ (.undef _), r1, r2, r3⟩

theorem clos_spec : ∀ {vs : List V} {ds : List D}, clos vs = some ds → vs.length = ds.length ∧ ∀ (i : Nat) (v : V) (d : D), vs[i]? = some v → ds[i]? = some d → v.clo = some d
  | [], ds, h => by simp [clos] at h; subst h; simp
  | v :: r, ds, h => by
    simp only [clos] at h
    split at h
    · rename_i x xs hx hxs
      simp at h; subst h
      obtain ⟨h1, h2⟩ := clos_spec hxs
      refine ⟨by simp [h1], fun i u d hu hd => ?_⟩
      cases i with
      | zero => simp at hu hd; subst hu; subst hd; exact hx
      | succ i => exact h2 i u d (by simpa using hu) (by simpa using hd)
    · cases h

theorem RV.clo_rel {v : V} {c : Value} {x : D} (h : RV φ S H w v c) (hc : v.clo = some x) : RD S w x c := by
  cases h with
  | d y c hy => simp [V.clo] at hc; subst hc; exact hy
  | nils => simp [V.clo] at hc; subst hc; exact .vec [] none 0 0 0 0 (fun _ => undef) (Nat.le_refl _) (fun h => absurd rfl h) (fun e he => by simp at he) (fun i e k x he => by simp at he) (fun i e k x he => by simp at he)
  | ptr => simp [V.clo] at hc
  | own => simp [V.clo] at hc
  | agg => simp [V.clo] at hc
  | tuple => simp [V.clo] at hc
  | func => simp [V.clo] at hc

/-- Related closed lists. -/
theorem RVs.clos {vs : List V} {cs : List Value} {ds : List D} (h : RVs φ S H w vs cs) (hc : AM.clos vs = some ds) :
    ds.length = cs.length ∧ ∀ (i : Nat) (d : D) (c : Value), ds[i]? = some d → cs[i]? = some c → RD S w d c := by
  obtain ⟨h1, h2⟩ := clos_spec hc
  refine ⟨by rw [← h1, h.len], fun i d c hd hcv => ?_⟩
  have hi : i < vs.length := by rw [h1]; exact (List.getElem?_eq_some_iff.1 hd).1
  exact (h.at_ i _ c (List.getElem?_eq_getElem hi) hcv).clo_rel (h2 i _ d (List.getElem?_eq_getElem hi) hd)

theorem D.over_cells (e : D) (j : Nat) (ds : List D) (hj : j + ds.length ≤ e.cells.length) (h1 : ∀ d ∈ ds, d.cells = [d]) (hne : ds ≠ []) : (e.over j ds).cells = splice e.cells j ds := by
  cases e with
  | agg cs => rfl
  | _ =>
    all_goals
      simp only [D.cells, List.length_singleton] at hj
      have hl : ds.length = 1 := by have := List.length_pos_iff.2 hne; omega
      obtain ⟨d, rfl⟩ := List.length_eq_one_iff.1 hl
      simp at hj; subst hj
      simp [D.over, D.cells, splice]
      exact h1 d (by simp)

theorem clo_one_cells {v : V} {x : D} (ho : v.one = true) (h : v.clo = some x) : x.cells = [x] := by
  cases v with
  | d y => simp [V.clo] at h; subst h; cases y <;> simp [V.one, D.cells] at ho ⊢
  | nils => simp [V.clo] at h; subst h; rfl
  | _ => simp [V.clo] at h

theorem getElem?_set_list {α : Type} (l : List α) (i k : Nat) (x : α) (hi : i < l.length) : (l.set i x)[k]? = if k = i then some x else l[k]? := by
  rw [List.getElem?_set]
  by_cases h : i = k
  · subst h; simp [hi]
  · simp [h, Ne.symm h]

theorem out_store_dat {o : Oper} {t : Nat} {x y : Operand} {ti : TI} (ho : o.op = .store t x y) (ht : TOk P t ti) {id i j sz : Nat} {els : List D} {e : D} {ds : List D} (hx : ev T x = .ptr id i j)
    (hg : hget H id = .dat false sz els) (he : els[i]? = some e) (hd : clos (ev T y).cells = some ds)
    (hsz : (ev T y).cells.length = ti.size) (hpos : 0 < ti.size) (h1 : (ev T y).cells.all V.one = true) (hfit : j + ti.size ≤ e.cells.length) (hu : (ev T y).isUndef = false) (hH : HRel C φ S H w) (hT : TRel φ S H w T a) :
    Out P C φ S H w o a (.d .undef) (hput H id (.dat false sz (els.set i (e.over j ds)))) := by
  have h := ev_rel hT x
  rw [hx] at h
  generalize hc : a.eval x = c at h
  have hy := (ev_rel hT y).cells hu
  obtain ⟨hcl1, hcl2⟩ := clos_spec hd
  have hone' : ∀ d ∈ ds, d.cells = [d] := fun d hdm => by
    obtain ⟨k, hk⟩ := List.mem_iff_getElem?.1 hdm
    have hk' : k < (ev T y).cells.length := by rw [hcl1]; exact (List.getElem?_eq_some_iff.1 hk).1
    exact clo_one_cells (List.all_eq_true.1 h1 _ (List.getElem_mem hk')) (hcl2 k _ d (List.getElem?_eq_getElem hk') hk)
  have hne : ds ≠ [] := fun e => by rw [e] at hcl1; simp at hcl1; rw [hcl1] at hsz; simp at hsz; omega
  cases h with | ptr id i j A hub h =>
    obtain ⟨L, hL, rfl⟩ := h sz (by rw [hg]; rfl)
    have hb := hH.blk id
    rw [hg] at hb
    rcases hb with ⟨hn, _⟩ | ⟨L', cs, t', h1', h3, h4, h5, h6, h7⟩
    · subst hn; simp at he
    rw [hL] at h1'; cases h1'
    have hi : i < els.length := (List.getElem?_eq_some_iff.1 he).1
    have hsze : e.cells.length = sz := h4 e (List.mem_of_getElem? he)
    have hov : (e.over j ds).cells = splice e.cells j ds := D.over_cells e j ds (by omega) hone' hne
    have hone : ∀ v ∈ (a.eval y).cells.toList, v.oneCell' = true := fun v hv => by
      obtain ⟨k, hk⟩ := List.mem_iff_getElem?.1 hv
      have hk' : k < (ev T y).cells.length := by rw [hy.len]; exact (List.getElem?_eq_some_iff.1 hk).1
      exact (hy.at_ k _ v (List.getElem?_eq_getElem hk') hk).one_inv (List.all_eq_true.1 h1 _ (List.getElem_mem hk'))
    have hszc : (a.eval y).cells.size = ti.size := by have := hy.len; simp at this; omega
    have hmul : (i + 1) * sz ≤ els.length * sz := Nat.mul_le_mul_right _ hi
    rw [Nat.add_mul, Nat.one_mul] at hmul
    have hr := run_store_cells (w := w) ho ht hc h3.heap hszc (by omega) hone
    have hfit' : L.off + i * sz + j + (a.eval y).cells.toList.length ≤ cs.toList.length := by simp; omega
    have hsz' : (splice cs.toList (L.off + i * sz + j) (a.eval y).cells.toList).toArray.size = cs.size := by
      rw [List.size_toArray, splice_length _ _ _ hfit']; simp
    obtain ⟨hy1, hy2⟩ := hy.clos hd
    have hds : ds.length = ti.size := by omega
    obtain ⟨r1, r2, r3⟩ := hH.write hL h3 (fun hs => by simpa using h7.1 hs) hsz' (.dat false sz (els.set i (e.over j ds)))
      (by rw [hg]; simp [SameShape])
      (fun hs => .inr ⟨L, _, t', hL, ⟨setRow_heap w L.blk cs _ t' (0, 0) h3.heap, h3.size.trans hsz'.symm⟩, fun e' he' => by
        rcases List.mem_or_eq_of_mem_set he' with h | rfl
        · exact h4 e' h
        · rw [hov, splice_length _ _ _ (by omega)]; exact hsze, by rw [hsz']; simpa using h5, fun i' e' k x' he' hx' => by
          rw [getElem?_set_list _ _ _ _ hi] at he'
          have hcell : (splice cs.toList (L.off + i * sz + j) (a.eval y).cells.toList).toArray[L.off + (i' * sz + k)]? =
            if L.off + i * sz + j ≤ L.off + (i' * sz + k) ∧ L.off + (i' * sz + k) < L.off + i * sz + j + ti.size then (a.eval y).cells.toList[L.off + (i' * sz + k) - (L.off + i * sz + j)]? else cs[L.off + (i' * sz + k)]? := by
            rw [List.getElem?_toArray, splice_get _ _ _ hfit']
            simp [hszc]
          rw [hcell]
          by_cases hi' : i' = i
          · subst hi'
            simp at he'; subst he'
            rw [hov] at hx'
            rw [splice_get _ _ _ (by omega)] at hx'
            by_cases hk : j ≤ k ∧ k < j + ds.length
            · rw [if_pos hk] at hx'
              rw [if_pos (by omega)]
              have hk2 : L.off + (i' * sz + k) - (L.off + i' * sz + j) = k - j := by omega
              rw [hk2]
              have hlt : k - j < (a.eval y).cells.toList.length := by simp; omega
              exact ⟨_, List.getElem?_eq_getElem hlt, (hy2 (k - j) x' _ hx' (List.getElem?_eq_getElem hlt)).keep hs.keepS⟩
            · rw [if_neg hk] at hx'
              rw [if_neg (by omega)]
              obtain ⟨c, hc1, hc2⟩ := h6 i' e k x' he hx'
              exact ⟨c, hc1, hc2.keep hs.keepS⟩
          · rw [if_neg hi'] at he'
            have hk : k < sz := by
              have := (List.getElem?_eq_some_iff.1 hx').1
              rw [h4 e' (List.mem_of_getElem? he')] at this; exact this
            have hneg : ¬ (L.off + i * sz + j ≤ L.off + (i' * sz + k) ∧ L.off + (i' * sz + k) < L.off + i * sz + j + ti.size) := by
              intro ⟨g1, g2⟩
              rcases Nat.lt_or_ge i' i with hlt | hge
              · have : (i' + 1) * sz ≤ i * sz := Nat.mul_le_mul_right _ hlt
                rw [Nat.add_mul, Nat.one_mul] at this; omega
              · have : (i + 1) * sz ≤ i' * sz := Nat.mul_le_mul_right _ (by omega)
                rw [Nat.add_mul, Nat.one_mul] at this; omega
            rw [if_neg hneg]
            obtain ⟨c, hc1, hc2⟩ := h6 i' e' k x' he' hx'
            exact ⟨c, hc1, hc2.keep hs.keepS⟩, h7⟩)
    exact ⟨_, _, φ, .inr ⟨hr, rfl⟩, .d _ _ (.undef _), r1, r2, r3⟩

end
end Go.Proofs.Ythpapgbpmkgfeaa.AM
