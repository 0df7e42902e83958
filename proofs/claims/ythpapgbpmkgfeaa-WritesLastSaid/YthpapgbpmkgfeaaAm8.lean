/- One operation of the machine is one of the model: a slice's literal, append, equality of structs. -/
import Derived.Test.YthpapgbpmkgfeaaAm7
set_option linter.all false
namespace Go.Proofs.Ythpapgbpmkgfeaa.AM
open Go Go.RowKit

section
variable {P : Program} {E : Env} {C : Ctx} {φ φ' : Nat → Option Loc} {S S' : Nat → Prop} {H H' : Heap} {w w' : World} {T : Tmps} {a : Act}

theorem fill_all {sz : Nat} : ∀ (parts : List (Nat × Value)) (i : Nat) (A : Array Value), (∀ (k : Nat) (p : Nat × Value), parts[k]? = some p → p.1 = i + k ∧ p.2.cells.size = sz) → A.size = (i + parts.length) * sz →
    Instr.fill (fun i => some (i * sz, sz)) A parts = some (A.toList.take (i * sz) ++ (parts.map (·.2.cells.toList)).flatten).toArray
  | [], i, A, _, hA => by
    simp [Instr.fill] at hA ⊢
    rw [List.take_of_length_le (by simp [hA])]
  | (j, v) :: r, i, A, h, hA => by
    obtain ⟨h1, h2⟩ := h 0 (j, v) rfl
    simp at h1 h2; subst h1
    have hle : j * sz + sz ≤ A.size := by rw [hA]; simp [Nat.add_mul]
    rw [fill_step rfl h2 hle]
    rw [fill_all r (j + 1) _ (fun k p hp => by obtain ⟨q1, q2⟩ := h (k + 1) p (by simpa using hp); exact ⟨by omega, q2⟩) (by
      rw [List.size_toArray, splice_length _ _ _ (by simp [h2]; omega)]; simp [hA]; congr 1; omega)]
    simp only [List.map_cons, List.flatten_cons]
    congr 2
    have : (splice A.toList (j * sz) v.cells.toList).take ((j + 1) * sz) = A.toList.take (j * sz) ++ v.cells.toList := by
      unfold splice
      rw [List.take_append_of_le_length (by simp [h2, Nat.add_mul]; omega)]
      exact List.take_of_length_le (by simp [h2, Nat.add_mul]; omega)
    rw [this]; simp

theorem BR.dat_flat {id : Nat} {L : Loc} {sz : Nat} {els : List D} {cs : Array Value} {t : Nat} {vals : List Value} (hL : φ id = some L) (hat : At w L cs t) (hS : ¬ S L.blk)
    (hlen : vals.length = els.length) (hsz : ∀ e ∈ els, e.cells.length = sz) (hvs : ∀ v ∈ vals, v.cells.size = sz)
    (hrel : ∀ (i : Nat) (e : D) (v : Value), els[i]? = some e → vals[i]? = some v → ∀ (k : Nat) (d : D) (y : Value), e.cells[k]? = some d → v.cells[k]? = some y → RD S w d y)
    (hcs : ∀ (k : Nat) (y : Value), (vals.map (·.cells.toList)).flatten[k]? = some y → cs[L.off + k]? = some y) (hfit : L.off + els.length * sz ≤ cs.size) : BR φ S H w id (.dat false sz els) := by
  refine .inr ⟨L, cs, t, hL, hat, hsz, hfit, fun i e k x he hx => ?_, by simpa using hS⟩
  have hi : i < vals.length := by rw [hlen]; exact (List.getElem?_eq_some_iff.1 he).1
  have hk : k < sz := by rw [← hsz e (List.mem_of_getElem? he)]; exact (List.getElem?_eq_some_iff.1 hx).1
  have hks : k < vals[i].cells.size := by rw [hvs _ (List.getElem_mem hi)]; exact hk
  have hfl := flat_get sz (vals.map (·.cells.toList)) (fun l hl => by
    obtain ⟨v, hv, rfl⟩ := List.mem_map.1 hl
    simpa using hvs v hv) i k vals[i].cells.toList (by simp [hi]) hk
  rw [show vals[i].cells.toList[k]? = some vals[i].cells[k] by simp [hks]] at hfl
  exact ⟨_, hcs _ _ hfl, hrel i e vals[i] he (by simp [hi]) k x _ hx (by simp [hks])⟩

theorem out_buildSlice {o : Oper} {t n nid : Nat} {parts : Array (Nat × Operand)} {eti : TI} {els : List D} (ho : o.op = .buildSlice t n parts) (hE : EOk P E) (hs : sliceOf E t = some eti)
    (hp : partsD T eti.size 0 parts.toList = some els) (hn : els.length = n) (hbig : n * eti.size ≤ 1000) (hu : hget H nid = .unborn) (hH : HRel C φ S H w) (hT : TRel φ S H w T a) :
    Out P C φ S H w o a (.own nid 0 n) (hput H nid (.dat false eti.size els)) := by
  obtain ⟨e, h1, h2, _⟩ := sliceOf_spec hE hs
  obtain ⟨i, z, d, g1, g2, g3, g4, g5, g5', g6, g7, g8, g9⟩ := h2.facts
  obtain ⟨q1, q2⟩ := partsD_spec hT parts.toList 0 els hp
  have hvals : ∀ (k : Nat) (p : Nat × Operand) (e : D), parts.toList[k]? = some p → els[k]? = some e → (a.eval p.2).cells.size = eti.size := fun k p e hk he => by
    obtain ⟨_, r2, r3, r4⟩ := q2 k p e hk he
    rw [← (r3.cells r4).1]; exact r2
  have hfill : ∀ Z : Array Value, Instr.fill (fun i => some (i * eti.size, eti.size)) ((Array.range (n * eti.size)).map (Z[· % Z.size]!)) (parts.map fun p => (p.1, a.eval p.2)).toList = some (parts.toList.map fun p => (a.eval p.2).cells.toList).flatten.toArray := fun Z => by
    have := fill_all (sz := eti.size) (parts.toList.map fun p => (p.1, a.eval p.2)) 0 ((Array.range (n * eti.size)).map (Z[· % Z.size]!)) (fun k p hk => by
      rw [List.getElem?_map] at hk
      cases hpk : parts.toList[k]? with
      | none => simp [hpk] at hk
      | some pp =>
        simp [hpk] at hk; subst hk
        have hk' : k < els.length := by rw [← q1]; exact (List.getElem?_eq_some_iff.1 hpk).1
        obtain ⟨r1, _⟩ := q2 k pp _ hpk (List.getElem?_eq_getElem hk')
        exact ⟨r1, hvals k pp _ hpk (List.getElem?_eq_getElem hk')⟩) (by simp; rw [← hn, ← q1]; simp)
    simp only [Nat.zero_mul, List.take_zero, List.nil_append, List.map_map] at this
    rw [Array.toList_map]; exact this
  have hbig' : ¬ (n * eti.size > 2 ^ 24) := by omega
  have hrun : (execOp a.eval o).run P w = .ok (.value (.slice (some ⟨w.heap.size, 0, none⟩) n n)) (w.alloc (.cells (parts.toList.map fun p => (a.eval p.2).cells.toList).flatten.toArray e)) := by
    simp only [execOp, ho, Instr.buildSlice, Sem.run_bind, run_underlying h1, Result.andThen_ok, run_sizeOf' g1, g2]
    rw [if_neg hbig']
    by_cases h0 : n * eti.size = 0
    · rw [if_pos h0]
      simp only [Sem.run_bind, Sem.run_pure, Result.andThen_ok]
      rw [hfill #[]]
      simp only [Sem.run_bind, Sem.run_pure, Result.andThen_ok, newRow, run_newObj, World.alloc_eq]
    · rw [if_neg h0]
      simp only [Sem.run_bind, Sem.run_pure, Result.andThen_ok, run_zeroValue' g1 g4]
      rw [hfill z.cells]
      simp only [Sem.run_bind, Sem.run_pure, Result.andThen_ok, newRow, run_newObj, World.alloc_eq]
  have hcslen : (parts.toList.map fun p => (a.eval p.2).cells.toList).flatten.length = n * eti.size := by
    rw [flat_length eti.size _ (fun l hl => by
      obtain ⟨p, hp', rfl⟩ := List.mem_map.1 hl
      obtain ⟨k, hk⟩ := List.mem_iff_getElem?.1 hp'
      have hk' : k < els.length := by rw [← q1]; exact (List.getElem?_eq_some_iff.1 hk).1
      simpa using hvals k p _ hk (List.getElem?_eq_getElem hk'))]
    rw [List.length_map, q1, hn]
  obtain ⟨r1, r2, r3⟩ := hH.alloc hu (.dat false eti.size els) (parts.toList.map fun p => (a.eval p.2).cells.toList).flatten.toArray e (fun hst => by
    refine BR.dat_flat (L := ⟨w.heap.size, 0, _⟩) (vals := parts.toList.map fun p => a.eval p.2) (by simp [upd]) ⟨heap_alloc_new w _, rfl⟩ (fun h => by have := hH.low _ h; simp at this) (by simpa using q1)
      (fun e he => by
        obtain ⟨k, hk⟩ := List.mem_iff_getElem?.1 he
        have hk' : k < parts.toList.length := by rw [q1]; exact (List.getElem?_eq_some_iff.1 hk).1
        exact (q2 k _ e (List.getElem?_eq_getElem hk') hk).2.1)
      (fun v hv => by
        obtain ⟨p, hp', rfl⟩ := List.mem_map.1 hv
        obtain ⟨k, hk⟩ := List.mem_iff_getElem?.1 hp'
        have hk' : k < els.length := by rw [← q1]; exact (List.getElem?_eq_some_iff.1 hk).1
        exact hvals k p _ hk (List.getElem?_eq_getElem hk'))
      (fun i e v he hv k d y hd hy => by
        rw [List.getElem?_map] at hv
        cases hpk : parts.toList[i]? with
        | none => simp [hpk] at hv
        | some p =>
          simp [hpk] at hv; subst hv
          obtain ⟨_, _, s3, s4⟩ := q2 i p e hpk he
          exact ((s3.cells s4).2 k d y hd hy).keep hst.keepS)
      (fun k y hy => by simpa [List.map_map, Function.comp_def] using hy) (by simp only [List.size_toArray, hcslen, hn]; omega))
  refine ⟨_, _, _, .inl hrun, .own nid 0 n n n _ (by rw [hget_hput]; simp) (fun fz sz els' hg => ?_), r1, r2, r3⟩
  rw [hget_hput] at hg; simp at hg
  obtain ⟨rfl, rfl, rfl⟩ := hg
  exact ⟨by omega, rfl, Nat.le_refl _, .inr ⟨⟨w.heap.size, 0, (parts.toList.map fun p => (a.eval p.2).cells.toList).flatten.toArray.size⟩, by simp only [upd, if_true], by simp, by simp only [List.size_toArray, hcslen]; simp⟩⟩

/-- Elements, in a world. -/
theorem elems_rel {v : V} {c : Value} {ys : List D} (hH : HRel C φ S H w) (h : RV φ S H w v c) (hl : elems H v = some ys) :
    ∃ (A : Option Addr) (cap : Nat), c = .slice A ys.length cap ∧ ∃ (sz : Nat) (vals : List Value), (∀ e ∈ ys, e.cells.length = sz) ∧ vals.length = ys.length * sz ∧
      (ys ≠ [] → ∃ B o, A = some ⟨B, o, none⟩ ∧ ∀ (j : Nat) (y : Value), vals[j]? = some y → w.cell? ⟨B, o + j, none⟩ = some y) ∧
      (∀ (i : Nat) (e : D) (k : Nat) (x : D), ys[i]? = some e → e.cells[k]? = some x → ∃ y, vals[i * sz + k]? = some y ∧ RD S w x y) := by
  have mk : ∀ (ys : List D) (sz : Nat) (f : Nat → Value), (∀ e ∈ ys, e.cells.length = sz) → ∀ (i : Nat) (e : D) (k : Nat) (x : D), ys[i]? = some e → e.cells[k]? = some x → ((List.range (ys.length * sz)).map f)[i * sz + k]? = some (f (i * sz + k)) := by
    intro ys sz f hsz i e k x he hx
    have hi : i < ys.length := (List.getElem?_eq_some_iff.1 he).1
    have hk : k < sz := by rw [← hsz e (List.mem_of_getElem? he)]; exact (List.getElem?_eq_some_iff.1 hx).1
    have : (i + 1) * sz ≤ ys.length * sz := Nat.mul_le_mul_right _ hi
    rw [Nat.add_mul, Nat.one_mul] at this
    rw [List.getElem?_map, List.getElem?_range (by omega)]
    rfl
  have cellOf : ∀ (ys : List D) (sz : Nat) (f : Nat → Value) (B o : Nat), (∀ e ∈ ys, e.cells.length = sz) → (∀ (i : Nat) (e : D) (k : Nat) (x : D), ys[i]? = some e → e.cells[k]? = some x → w.cell? ⟨B, o + (i * sz + k), none⟩ = some (f (i * sz + k))) →
      ∀ (j : Nat) (y : Value), ((List.range (ys.length * sz)).map f)[j]? = some y → w.cell? ⟨B, o + j, none⟩ = some y := by
    intro ys sz f B o hsz hc j y hj
    have hlt : j < ys.length * sz := by have := (List.getElem?_eq_some_iff.1 hj).1; simpa using this
    rw [List.getElem?_map, List.getElem?_range hlt] at hj
    simp at hj; subst hj
    have hpos : 0 < sz := by
      rcases Nat.eq_zero_or_pos sz with h0 | h0
      · subst h0; simp at hlt
      · exact h0
    have hq : j / sz < ys.length := (Nat.div_lt_iff_lt_mul hpos).2 hlt
    have hm : j % sz < sz := Nat.mod_lt _ hpos
    have he := hsz _ (List.getElem_mem hq)
    have := hc (j / sz) ys[j / sz] (j % sz) _ (List.getElem?_eq_getElem hq) (List.getElem?_eq_getElem (by rw [he]; exact hm))
    rwa [show j / sz * sz + j % sz = j by rw [Nat.mul_comm]; exact Nat.div_add_mod j sz] at this
  cases h with
  | d x c h =>
    cases h with
    | vec els A cap B o sz m h1 h2 h3 h4 h5 =>
      simp [elems] at hl; subst hl
      refine ⟨A, cap, rfl, sz, (List.range (els.length * sz)).map m, h3, by simp, fun hne => ⟨B, o, h2 hne, cellOf els sz m B o h3 (fun i e k x he hx => (h4 i e k x he hx).2)⟩, fun i e k x he hx => ⟨_, mk els sz m h3 i e k x he hx, h5 i e k x he hx⟩⟩
    | _ => simp [elems] at hl
  | nils => simp [elems] at hl; subst hl; exact ⟨none, 0, rfl, 0, [], by simp, by simp, fun h => absurd rfl h, fun i e k x he => by simp at he⟩
  | own id off len l cap A hu h =>
    simp only [elems] at hl
    split at hl
    · rename_i fz sz els hg
      simp at hl; subst hl
      obtain ⟨r1, rfl, r2, r3⟩ := h fz sz els hg
      have hlen : ((els.drop off).take l).length = l := by simp; omega
      have hget : ∀ (i : Nat) (e : D), ((els.drop off).take l)[i]? = some e → els[off + i]? = some e := fun i e he => by
        rw [List.getElem?_take] at he
        split at he
        · rwa [List.getElem?_drop] at he
        · cases he
      have hb := hH.blk id
      rw [hg] at hb
      rcases hb with ⟨hn, _⟩ | ⟨L, cs, t, h1, h2, h3, h4, h5, h6⟩
      · subst hn
        simp at r1
        obtain ⟨rfl, rfl⟩ := r1
        exact ⟨A, cap, rfl, 0, [], by simp, by simp, fun h => absurd (by simp) h, fun i e k x he => by simp at he⟩
      · obtain ⟨f, hf⟩ : ∃ f : Nat → Value, f = fun k => cs.getD (L.off + (off * sz + k)) undef := ⟨_, rfl⟩
        have hsz : ∀ e ∈ (els.drop off).take l, e.cells.length = sz := fun e he => h3 e (List.mem_of_mem_drop (List.mem_of_mem_take he))
        have hcell : ∀ (i : Nat) (e : D) (k : Nat) (x : D), ((els.drop off).take l)[i]? = some e → e.cells[k]? = some x → cs[L.off + (off * sz + (i * sz + k))]? = some (f (i * sz + k)) ∧ RD S w x (f (i * sz + k)) := fun i e k x he hx => by
          obtain ⟨c, hc1, hc2⟩ := h5 (off + i) e k x (hget i e he) hx
          rw [Nat.add_mul, Nat.add_assoc] at hc1
          rw [hf]; simp [hc1, hc2]
        refine ⟨A, cap, by rw [hlen], sz, (List.range (((els.drop off).take l).length * sz)).map f, hsz, by simp, fun hne => ?_, fun i e k x he hx => ⟨_, mk _ sz f hsz i e k x he hx, (hcell i e k x he hx).2⟩⟩
        rcases r3 with r3 | ⟨L', hL', rfl, r4⟩
        · exfalso; apply hne; apply List.eq_nil_of_length_eq_zero; omega
        · rw [h1] at hL'; cases hL'
          refine ⟨L.blk, L.off + off * sz, rfl, cellOf _ sz f L.blk (L.off + off * sz) hsz (fun i e k x he hx => ?_)⟩
          rw [cell_of_row w L.blk _ cs t (0, 0) h2.heap, Nat.add_assoc]
          exact (hcell i e k x he hx).1
    · cases hl
  | _ => simp [elems] at hl

end
end Go.Proofs.Ythpapgbpmkgfeaa.AM
