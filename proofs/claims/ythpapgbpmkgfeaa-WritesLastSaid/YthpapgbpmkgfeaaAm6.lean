/- One operation of the machine is one of the model: addresses, slices, literals, lengths, append. -/
import Derived.Test.YthpapgbpmkgfeaaAm5
set_option linter.all false
namespace Go.Proofs.Ythpapgbpmkgfeaa.AM
open Go Go.RowKit

section
variable {P : Program} {E : Env} {C : Ctx} {φ φ' : Nat → Option Loc} {S S' : Nat → Prop} {H H' : Heap} {w w' : World} {T : Tmps} {a : Act}

theorem RV.imm_inv {e : D} {j : Nat} {c : Value} (h : RV φ S H w (.d (.imm e j)) c) : ∃ B o, c = .pointer (some ⟨B, o + j, none⟩) ∧ ∀ j', RV φ S H w (.d (.imm e j')) (.pointer (some ⟨B, o + j', none⟩)) := by
  cases h with | d x c h => cases h with | imm _ _ B o m h1 h2 => exact ⟨B, o, rfl, fun j' => .d _ _ (.imm e j' B o m h1 h2)⟩

theorem RV.ptr_inv {id i j : Nat} {c : Value} (h : RV φ S H w (.ptr id i j) c) {sz : Nat} (hw : (hget H id).width = some sz) :
    ∃ L, φ id = some L ∧ c = .pointer (some ⟨L.blk, L.off + i * sz + j, none⟩) ∧ ∀ i' j', RV φ S H w (.ptr id i' j') (.pointer (some ⟨L.blk, L.off + i' * sz + j', none⟩)) := by
  cases h with | ptr _ _ _ A hu h =>
    obtain ⟨L, hL, rfl⟩ := h sz hw
    exact ⟨L, hL, rfl, fun i' j' => .ptr id i' j' _ hu (fun sz' hw' => by rw [hw] at hw'; cases hw'; exact ⟨L, hL, rfl⟩)⟩

theorem run_fieldPlace {f : Field} {fi : TypeInfo} (hf : P.info? f.type = some fi) (h0 : fi.size ≠ 0) (A : Addr) : (fieldPlace A f).run P w = .ok (A.add f.offset) w := by
  simp [fieldPlace, run_sizeOf' hf, h0]

theorem out_fieldAddr_gen {o : Oper} {t f off sz : Nat} {x : Operand} {ti : TI} (ho : o.op = .fieldAddr t x f) (ht : TOk P t ti) (hs : structAt ti f = some (off, sz)) (h0 : sz ≠ 0) {B n : Nat}
    (hx : a.eval x = .pointer (some ⟨B, n, none⟩)) : (execOp a.eval o).run P w = .ok (.value (.pointer (some ⟨B, n + off, none⟩))) w := by
  obtain ⟨i, z, d, h1, h2, h3, h4, h5, h5', h6, h7, h8, h9⟩ := ht.facts
  unfold structAt at hs
  split at hs
  · rename_i fs hsh
    rw [hsh] at h8
    obtain ⟨fields, rfl, hlen, hf⟩ := h8
    have hlt : f < fields.size := by rw [← hlen]; exact (List.getElem?_eq_some_iff.1 hs).1
    obtain ⟨j, hj, hfs⟩ := hf f fields[f] (by simp [hlt])
    rw [hfs] at hs
    simp at hs
    obtain ⟨rfl, rfl⟩ := hs
    simp [execOp, ho, Instr.fieldAt, run_underlying h6, hlt, hx, Instr.sureAddr, run_fieldPlace hj h0, addr_add]
  · cases hs

theorem out_fieldAddr_imm {o : Oper} {t f off sz : Nat} {x : Operand} {ti : TI} {e : D} {j : Nat} (ho : o.op = .fieldAddr t x f) (ht : TOk P t ti) (hs : structAt ti f = some (off, sz)) (h0 : sz ≠ 0)
    (hx : ev T x = .d (.imm e j)) (hH : HRel C φ S H w) (hT : TRel φ S H w T a) : Out P C φ S H w o a (.d (.imm e (j + off))) H := by
  have h := ev_rel hT x
  rw [hx] at h
  obtain ⟨B, n, hc, hh⟩ := h.imm_inv
  refine .quiet hH (out_fieldAddr_gen ho ht hs h0 hc) ?_
  rw [Nat.add_assoc]; exact hh _

theorem out_fieldAddr_ptr {o : Oper} {t f off sz : Nat} {x : Operand} {ti : TI} {id i j : Nat} (ho : o.op = .fieldAddr t x f) (ht : TOk P t ti) (hs : structAt ti f = some (off, sz)) (h0 : sz ≠ 0)
    (hx : ev T x = .ptr id i j) (hw : (hget H id).width.isSome = true) (hH : HRel C φ S H w) (hT : TRel φ S H w T a) : Out P C φ S H w o a (.ptr id i (j + off)) H := by
  have h := ev_rel hT x
  rw [hx] at h
  obtain ⟨s, hsz⟩ := Option.isSome_iff_exists.1 hw
  obtain ⟨L, hL, hc, hh⟩ := h.ptr_inv hsz
  refine .quiet hH (out_fieldAddr_gen ho ht hs h0 hc) ?_
  rw [Nat.add_assoc _ j off]; exact hh _ _

theorem RV.vec_inv {els : List D} {c : Value} (h : RV φ S H w (.d (.vec els)) c) : ∃ (A : Option Addr) (cap B o sz : Nat) (m : Nat → Value), c = .slice A els.length cap ∧ els.length ≤ cap ∧ (els ≠ [] → A = some ⟨B, o, none⟩) ∧ (∀ e ∈ els, e.cells.length = sz) ∧
      (∀ (i : Nat) (e : D) (k : Nat) (x : D), els[i]? = some e → e.cells[k]? = some x → S B ∧ w.cell? ⟨B, o + (i * sz + k), none⟩ = some (m (i * sz + k))) ∧
      (∀ (i : Nat) (e : D) (k : Nat) (x : D), els[i]? = some e → e.cells[k]? = some x → RD S w x (m (i * sz + k))) := by
  cases h with | d x c h => cases h with | vec _ A cap B o sz m h1 h2 h3 h4 h5 => exact ⟨A, cap, B, o, sz, m, rfl, h1, h2, h3, h4, h5⟩

/-- Behind every element of a slice there is its address. -/
theorem out_index_vec {o : Oper} {t et : Nat} {x ix : Operand} {ti eti : TI} {els : List D} {e : D} {k : IntKind} {n : Int} (ho : o.op = .indexAddr t x ix) (ht : TOk P t ti) (hsh : ti.shape = .slice et) (het : TOk P et eti)
    (hx : ev T x = .d (.vec els)) (hi : ev T ix = .d (.int k n)) (hn : 0 ≤ n) (he : els[n.toNat]? = some e) (hsz : e.cells.length = eti.size) (hH : HRel C φ S H w) (hT : TRel φ S H w T a) :
    Out P C φ S H w o a (.d (.imm e 0)) H := by
  obtain ⟨i, z, d, h1, h2, h3, h4, h5, h5', h6, h7, h8, h9⟩ := ht.facts
  obtain ⟨i', z', d', g1, g2, g3, g4, g5, g5', g6, g7, g8, g9⟩ := het.facts
  rw [hsh] at h8
  simp only [ShapeOk] at h8
  subst h8
  have h := ev_rel hT x
  rw [hx] at h
  have hI := ev_rel hT ix
  rw [hi] at hI
  have eI := hI.int_inv
  obtain ⟨A, cap, B, off, sz, m, hc, r1, r2, r3, r4, r5⟩ := h.vec_inv
  have hA := r2 (fun h0 => by subst h0; simp at he)
  subst hA
  have hlt : n.toNat < els.length := (List.getElem?_eq_some_iff.1 he).1
  have hsz' : sz = eti.size := by rw [← hsz]; exact (r3 e (List.mem_of_getElem? he)).symm
  refine .quiet hH (c := .pointer (some ⟨B, off + n.toNat * sz + 0, none⟩)) ?_ (.d _ _ (.imm e 0 B (off + n.toNat * sz) (fun k => m (n.toNat * sz + k)) (fun k x hk => ?_) (fun k x hk => r5 _ e k x he hk)))
  · have hb : n < (els.length : Int) := by omega
    simp [execOp, ho, Instr.indexAt, eI, asIntOf, run_underlying h6, hc, hn, hb, run_sizeOf' g1, g2, hsz', addr_add]
  · have := r4 _ e k x he hk
    rw [Nat.add_assoc]; exact this

theorem out_index_own {o : Oper} {t et : Nat} {x ix : Operand} {ti eti : TI} {id off len sz : Nat} {fz : Bool} {els : List D} {k : IntKind} {n : Int} (ho : o.op = .indexAddr t x ix) (ht : TOk P t ti) (hsh : ti.shape = .slice et) (het : TOk P et eti)
    (hx : ev T x = .own id off len) (hg : hget H id = .dat fz sz els) (hi : ev T ix = .d (.int k n)) (hn : 0 ≤ n) (hlt : n < len) (hsz : sz = eti.size) (hH : HRel C φ S H w) (hT : TRel φ S H w T a) :
    Out P C φ S H w o a (.ptr id (off + n.toNat) 0) H := by
  obtain ⟨i, z, d, h1, h2, h3, h4, h5, h5', h6, h7, h8, h9⟩ := ht.facts
  obtain ⟨i', z', d', g1, g2, g3, g4, g5, g5', g6, g7, g8, g9⟩ := het.facts
  rw [hsh] at h8
  simp only [ShapeOk] at h8
  subst h8
  have h := ev_rel hT x
  rw [hx] at h
  have hI := ev_rel hT ix
  rw [hi] at hI
  have eI := hI.int_inv
  generalize hc : a.eval x = c at h
  cases h with | own _ _ _ l cap A hu h =>
    obtain ⟨r1, rfl, r2, r3⟩ := h fz sz els hg
    rcases r3 with r3 | ⟨L, hL, rfl, r4⟩
    · omega
    · refine .quiet hH (c := .pointer (some ⟨L.blk, L.off + off * sz + n.toNat * sz, none⟩)) ?_ (.ptr _ _ _ _ hu (fun s hs => ⟨L, hL, ?_⟩))
      · simp [execOp, ho, Instr.indexAt, eI, asIntOf, run_underlying h6, hc, hn, hlt, run_sizeOf' g1, g2, hsz, addr_add]
      · rw [hg] at hs; simp [Blk.width] at hs; subst hs
        rw [Nat.add_mul]; simp [Nat.add_assoc]

theorem run_index_array {o : Oper} {t et m : Nat} {x ix : Operand} {ti eti : TI} {k : IntKind} {n : Int} (ho : o.op = .indexAddr t x ix) (ht : TOk P t ti) (hsh : ti.shape = .array m et) (het : TOk P et eti)
    (hi : a.eval ix = .int k n) (hn : 0 ≤ n) (hlt : n < m) {B b : Nat} (hx : a.eval x = .pointer (some ⟨B, b, none⟩)) :
    (execOp a.eval o).run P w = .ok (.value (.pointer (some ⟨B, b + n.toNat * eti.size, none⟩))) w := by
  obtain ⟨i, z, d, h1, h2, h3, h4, h5, h5', h6, h7, h8, h9⟩ := ht.facts
  obtain ⟨i', z', d', g1, g2, g3, g4, g5, g5', g6, g7, g8, g9⟩ := het.facts
  rw [hsh] at h8
  simp only [ShapeOk] at h8
  subst h8
  simp [execOp, ho, Instr.indexAt, hi, asIntOf, run_underlying h6, hx, Instr.sureAddr, hn, hlt, run_sizeOf' g1, g2, addr_add]

theorem out_index_array_ptr {o : Oper} {t et m : Nat} {x ix : Operand} {ti eti : TI} {id i j : Nat} {k : IntKind} {n : Int} (ho : o.op = .indexAddr t x ix) (ht : TOk P t ti) (hsh : ti.shape = .array m et) (het : TOk P et eti)
    (hx : ev T x = .ptr id i j) (hi : ev T ix = .d (.int k n)) (hn : 0 ≤ n) (hlt : n < m) (hw : (hget H id).width.isSome = true) (hH : HRel C φ S H w) (hT : TRel φ S H w T a) :
    Out P C φ S H w o a (.ptr id i (j + n.toNat * eti.size)) H := by
  have h := ev_rel hT x
  rw [hx] at h
  have hI := ev_rel hT ix
  rw [hi] at hI
  obtain ⟨s, hsz⟩ := Option.isSome_iff_exists.1 hw
  obtain ⟨L, hL, hc, hh⟩ := h.ptr_inv hsz
  refine .quiet hH (run_index_array ho ht hsh het hI.int_inv hn hlt hc) ?_
  rw [Nat.add_assoc _ j _]; exact hh _ _

theorem out_index_array_imm {o : Oper} {t et m : Nat} {x ix : Operand} {ti eti : TI} {e : D} {j : Nat} {k : IntKind} {n : Int} (ho : o.op = .indexAddr t x ix) (ht : TOk P t ti) (hsh : ti.shape = .array m et) (het : TOk P et eti)
    (hx : ev T x = .d (.imm e j)) (hi : ev T ix = .d (.int k n)) (hn : 0 ≤ n) (hlt : n < m) (hH : HRel C φ S H w) (hT : TRel φ S H w T a) :
    Out P C φ S H w o a (.d (.imm e (j + n.toNat * eti.size))) H := by
  have h := ev_rel hT x
  rw [hx] at h
  have hI := ev_rel hT ix
  rw [hi] at hI
  obtain ⟨B, b, hc, hh⟩ := h.imm_inv
  refine .quiet hH (run_index_array ho ht hsh het hI.int_inv hn hlt hc) ?_
  rw [Nat.add_assoc]; exact hh _

theorem out_nilCheck {o : Oper} {x : Operand} (ho : o.op = .nilCheck x) (hp : isPtr H (ev T x) = true) (hH : HRel C φ S H w) (hT : TRel φ S H w T a) : Out P C φ S H w o a (ev T x) H := by
  have h := ev_rel hT x
  refine .quiet hH (c := a.eval x) ?_ h
  generalize ev T x = v at h hp
  cases v with
  | d y =>
    cases y with
    | imm e j => obtain ⟨B, b, hc, _⟩ := h.imm_inv; simp [execOp, ho, hc]
    | func f cap => cases h with | d _ c h => generalize hc : a.eval x = c at h; cases h; simp [execOp, ho, hc]
    | _ => simp [isPtr] at hp
  | ptr id i j =>
    simp only [isPtr] at hp
    obtain ⟨s, hsz⟩ := Option.isSome_iff_exists.1 hp
    obtain ⟨L, hL, hc, _⟩ := h.ptr_inv hsz
    simp [execOp, ho, hc]
  | func f cap => generalize hc : a.eval x = c at h; cases h; simp [execOp, ho, hc]
  | _ => simp [isPtr] at hp

theorem out_makeFunc {o : Oper} {f : Nat} {first caps : Array Operand} (ho : o.op = .makeFunc (.func f) first caps) (hH : HRel C φ S H w) (hT : TRel φ S H w T a) :
    Out P C φ S H w o a (.func (f, first.size) ((first.toList ++ caps.toList).map (ev T))) H := by
  refine .quiet hH (c := .func (.func f) (((first.toList ++ caps.toList).map a.eval).take first.size).toArray (((first.toList ++ caps.toList).map a.eval).drop first.size).toArray) ?_ (.func (f, first.size) _ _ (by simp) (fun i v c hv hc => ?_))
  · have h1 : (((first.toList ++ caps.toList).map a.eval).take first.size).toArray = first.map a.eval := by apply Array.ext'; simp
    have h2 : (((first.toList ++ caps.toList).map a.eval).drop first.size).toArray = caps.map a.eval := by apply Array.ext'; simp
    rw [h1, h2]; simp [execOp, ho, Instr.makeFunc]
  · rw [List.getElem?_map] at hv hc
    cases hx : (first.toList ++ caps.toList)[i]? with
    | none => simp [hx] at hv
    | some x => simp [hx] at hv hc; subst hv; subst hc; exact ev_rel hT x

theorem out_convert {o : Oper} {s t : Nat} {x : Operand} {si ti : TI} {k k' : IntKind} {n : Int} (ho : o.op = .convert s t x) (hs : TOk P s si) (ht : TOk P t ti) (hsh : ti.shape = .int k) (hx : ev T x = .d (.int k' n))
    (hH : HRel C φ S H w) (hT : TRel φ S H w T a) : Out P C φ S H w o a (.d (.int k (k.wrap n))) H := by
  obtain ⟨i, z, d, h1, h2, h3, h4, h5, h5', h6, h7, h8, h9⟩ := ht.facts
  obtain ⟨i', z', d', g1, g2, g3, g4, g5, g5', g6, g7, g8, g9⟩ := hs.facts
  rw [hsh] at h8
  simp only [ShapeOk] at h8
  subst h8
  have h := ev_rel hT x
  rw [hx] at h
  refine .quiet hH (c := .int k (k.wrap n)) ?_ (.d _ _ (.int _ _))
  simp only [execOp, ho, h.int_inv, convert, Sem.run_bind, run_underlying g6, run_underlying h6, Result.andThen_ok]
  cases d' <;> simp [Conv.intToInt]

theorem lenOf_rel {v : V} {c : Value} {n : Int} (h : RV φ S H w v c) (hl : lenOf H v = some n) : ∃ (A : Option Addr) (len cap : Nat), c = .slice A len cap ∧ n = len ∧ len ≤ cap := by
  cases h with
  | d x c h =>
    cases h with
    | vec els A cap B o sz m h1 h2 h3 h4 h5 => simp [lenOf] at hl; exact ⟨A, _, cap, rfl, hl.symm, h1⟩
    | _ => simp [lenOf] at hl
  | nils => simp [lenOf] at hl; exact ⟨_, _, _, rfl, hl.symm, Nat.le_refl _⟩
  | own id off len l cap A hu h =>
    simp only [lenOf] at hl
    split at hl
    · rename_i fz sz els hg
      obtain ⟨_, rfl, h3, _⟩ := h _ _ _ hg
      simp at hl
      exact ⟨A, _, cap, rfl, hl.symm, h3⟩
    · cases hl
  | _ => simp [lenOf] at hl

theorem sliceOf_spec {t : Nat} {eti : TI} (hE : EOk P E) (h : sliceOf E t = some eti) : ∃ e, P.underlying t = some (.slice e) ∧ TOk P e eti ∧ ∃ ti, TOk P t ti := by
  unfold sliceOf at h
  split at h
  · rename_i ti hti
    split at h
    · rename_i e hsh
      have ht := hE t ti hti
      obtain ⟨i, z, d, h1, h2, h3, h4, h5, h5', h6, h7, h8, h9⟩ := ht.facts
      rw [hsh] at h8
      simp only [ShapeOk] at h8
      subst h8
      exact ⟨e, h6, hE e eti h, ti, ht⟩
    · cases h
  · cases h

theorem out_len {o : Oper} {c : Call} {x : Operand} {t : Nat} {eti : TI} {n : Int} (ho : o.op = .call c) (hc : c.callee = .builtin .len) (hargs : c.args.toList = [x]) (htys : c.argTypes.toList = [t]) (hE : EOk P E) (hs : sliceOf E t = some eti)
    (hl : lenOf H (ev T x) = some n) (hH : HRel C φ S H w) (hT : TRel φ S H w T a) : Out P C φ S H w o a (.d (.int .i64 n)) H := by
  obtain ⟨e, h1, _, _⟩ := sliceOf_spec hE hs
  obtain ⟨A, len, cap, h2, h3, h4⟩ := lenOf_rel (ev_rel hT x) hl
  refine .quiet hH (c := .int .i64 n) ?_ (.d _ _ (.int _ _))
  have e1 : c.args = #[x] := by rw [← hargs]
  have e2 : c.argTypes = #[t] := by rw [← htys]
  subst h3
  simp [execOp, ho, resolve, hc, e1, e2, invoke, builtin, Builtin.len_, run_underlying h1, h2, goInt]

/-- Bounds of a slice expression. -/
theorem run_bounds {lo hi : Option Operand} {l h : Int} {len cap : Nat} (hlo : bound T 0 lo = some l) (hhi : bound T len hi = some h) (h0 : 0 ≤ l) (h1 : l ≤ h) (h2 : h ≤ len) (hcap : len ≤ cap) (hT : TRel φ S H w T a) :
    (Instr.sliceBounds true len cap (lo.map a.eval) (hi.map a.eval) none).run P w = .ok (l.toNat, h.toNat, cap) w := by
  have hb : ∀ {x : Operand} {d n : Int}, bound T d (some x) = some n → ∃ k, a.eval x = .int k n := fun {x d n} hx => by
    simp only [bound] at hx
    split at hx
    · rename_i k m hm
      simp at hx; subst hx
      have := ev_rel hT x
      rw [hm] at this
      exact ⟨k, this.int_inv⟩
    · cases hx
  have hh : (h.toNat : Int) = h := by omega
  cases hi with
  | none =>
    simp [bound] at hhi; subst hhi
    cases lo with
    | none => simp [bound] at hlo; subst hlo; simp [Instr.sliceBounds]
    | some x =>
      obtain ⟨k, hk⟩ := hb hlo
      simp [Instr.sliceBounds, hk, Instr.sliceBound, asIntOf, h0]
      omega
  | some y =>
    obtain ⟨k', hk'⟩ := hb hhi
    have hc' : h ≤ (cap : Int) := by omega
    have h00 : 0 ≤ h := by omega
    cases lo with
    | none => simp [bound] at hlo; subst hlo; simp [Instr.sliceBounds, hk', Instr.sliceBound, asIntOf, h00, hc']
    | some x =>
      obtain ⟨k, hk⟩ := hb hlo
      simp [Instr.sliceBounds, hk, hk', Instr.sliceBound, asIntOf, h00, hc', h0, hh, h1]

theorem run_slice {o : Oper} {t : Nat} {x : Operand} {lo hi : Option Operand} {l h : Int} {len cap : Nat} {A : Option Addr} {eti : TI} (ho : o.op = .slice t x lo hi none) (hE : EOk P E) (hs : sliceOf E t = some eti)
    (hx : a.eval x = .slice A len cap) (hlo : bound T 0 lo = some l) (hhi : bound T len hi = some h) (h0 : 0 ≤ l) (h1 : l ≤ h) (h2 : h ≤ len) (hcap : len ≤ cap) (hT : TRel φ S H w T a) :
    (execOp a.eval o).run P w = .ok (.value (.slice (if cap = l.toNat then A else A.map (·.add (l.toNat * eti.size))) (h.toNat - l.toNat) (cap - l.toNat))) w := by
  obtain ⟨e, h3, h4, _⟩ := sliceOf_spec hE hs
  obtain ⟨i, z, d, g1, g2, _⟩ := h4.facts
  have hb := run_bounds (P := P) (w := w) (a := a) hlo hhi h0 h1 h2 hcap hT
  simp [execOp, ho, Instr.sliceAt, run_underlying h3, Instr.slice, hx, hb, run_sizeOf' g1, g2]

theorem out_slice_nils {o : Oper} {t : Nat} {x : Operand} {lo hi : Option Operand} {l h : Int} {eti : TI} (ho : o.op = .slice t x lo hi none) (hE : EOk P E) (hs : sliceOf E t = some eti)
    (hx : ev T x = .nils) (hlo : bound T 0 lo = some l) (hhi : bound T 0 hi = some h) (hl0 : l = 0) (hh0 : h = 0) (hH : HRel C φ S H w) (hT : TRel φ S H w T a) : Out P C φ S H w o a .nils H := by
  subst hl0; subst hh0
  have hr := ev_rel hT x
  rw [hx] at hr
  generalize hc : a.eval x = c at hr
  cases hr
  have := run_slice (P := P) (w := w) ho hE hs hc hlo (by simpa using hhi) (by omega) (by omega) (by omega) (Nat.le_refl _) hT
  exact .quiet hH (c := .slice none 0 0) (by simpa using this) .nils

theorem out_slice_vec {o : Oper} {t : Nat} {x : Operand} {lo hi : Option Operand} {l h : Int} {eti : TI} {els : List D} (ho : o.op = .slice t x lo hi none) (hE : EOk P E) (hs : sliceOf E t = some eti)
    (hx : ev T x = .d (.vec els)) (hlo : bound T 0 lo = some l) (hhi : bound T els.length hi = some h) (h0 : 0 ≤ l) (h1 : l ≤ h) (h2 : h ≤ els.length) (hsz : ∀ e ∈ els, e.cells.length = eti.size) (hH : HRel C φ S H w) (hT : TRel φ S H w T a) :
    Out P C φ S H w o a (.d (.vec ((els.drop l.toNat).take (h - l).toNat))) H := by
  have hr := ev_rel hT x
  rw [hx] at hr
  obtain ⟨A, cap, B, off, sz, m, hc, r1, r2, r3, r4, r5⟩ := hr.vec_inv
  have hrun := run_slice (P := P) (w := w) ho hE hs hc hlo hhi h0 h1 h2 r1 hT
  have hlen : h.toNat - l.toNat = ((els.drop l.toNat).take (h - l).toNat).length := by simp; omega
  have hget : ∀ (i : Nat) (e : D), ((els.drop l.toNat).take (h - l).toNat)[i]? = some e → els[l.toNat + i]? = some e := fun i e he => by
    rw [List.getElem?_take] at he
    split at he
    · rwa [List.getElem?_drop] at he
    · cases he
  refine .quiet hH hrun ?_
  rw [hlen]
  refine .d _ _ (.vec _ _ _ B (off + l.toNat * sz) sz (fun k => m (l.toNat * sz + k)) ?_ ?_ ?_ ?_ ?_)
  · simp; omega
  · intro hne
    have hpos : 0 < ((els.drop l.toNat).take (h - l).toNat).length := List.length_pos_iff.2 hne
    simp at hpos
    have hels : els ≠ [] := fun e => by subst e; simp at hpos
    rw [r2 hels, if_neg (by omega)]
    obtain ⟨e0, he0⟩ := List.exists_mem_of_ne_nil els hels
    have : sz = eti.size := by rw [← r3 e0 he0]; exact hsz e0 he0
    simp [addr_add, this]
  · intro e he
    exact r3 e (List.mem_of_mem_drop (List.mem_of_mem_take he))
  · intro i e k x he hx'
    have := r4 _ e k x (hget i e he) hx'
    rw [Nat.add_mul] at this
    have e1 : off + l.toNat * sz + (i * sz + k) = off + (l.toNat * sz + i * sz + k) := by omega
    have e2 : l.toNat * sz + (i * sz + k) = l.toNat * sz + i * sz + k := by omega
    rw [e1]; simp only [e2]; exact this
  · intro i e k x he hx'
    have := r5 _ e k x (hget i e he) hx'
    rw [Nat.add_mul] at this
    have e2 : l.toNat * sz + (i * sz + k) = l.toNat * sz + i * sz + k := by omega
    simp only [e2]; exact this

theorem out_slice_own {o : Oper} {t : Nat} {x : Operand} {lo hi : Option Operand} {l h : Int} {eti : TI} {id off len sz : Nat} {fz : Bool} {els : List D} (ho : o.op = .slice t x lo hi none) (hE : EOk P E) (hs : sliceOf E t = some eti)
    (hx : ev T x = .own id off len) (hg : hget H id = .dat fz sz els) (hlo : bound T 0 lo = some l) (hhi : bound T len hi = some h) (h0 : 0 ≤ l) (h1 : l ≤ h) (h2 : h ≤ len) (hsz : sz = eti.size) (hH : HRel C φ S H w) (hT : TRel φ S H w T a) :
    Out P C φ S H w o a (.own id (off + l.toNat) (h - l).toNat) H := by
  have hr := ev_rel hT x
  rw [hx] at hr
  generalize hc : a.eval x = c at hr
  cases hr with | own _ _ _ ln cap A hu hh =>
    obtain ⟨r1, rfl, r2, r3⟩ := hh fz sz els hg
    have hrun := run_slice (P := P) (w := w) ho hE hs hc hlo hhi h0 h1 h2 r2 hT
    refine .quiet hH hrun (.own _ _ _ _ _ _ hu (fun fz' sz' els' hg' => ?_))
    rw [hg] at hg'; cases hg'
    refine ⟨by omega, by omega, by omega, ?_⟩
    rcases r3 with r3 | ⟨L, hL, rfl, r4⟩
    · left; omega
    · by_cases hcl : cap = l.toNat
      · left; omega
      · right
        refine ⟨L, hL, ?_, ?_⟩
        · rw [if_neg hcl]; simp [addr_add, hsz, Nat.add_mul, Nat.add_assoc]
        · have : off + l.toNat + (cap - l.toNat) = off + cap := by omega
          rw [this]; exact r4

end
end Go.Proofs.Ythpapgbpmkgfeaa.AM
