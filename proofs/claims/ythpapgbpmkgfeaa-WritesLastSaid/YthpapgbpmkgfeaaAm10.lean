/- ONE OPERATION OF THE MACHINE IS ONE OF THE MODEL: all of them. -/
import Derived.Test.YthpapgbpmkgfeaaAm9
set_option linter.all false
namespace Go.Proofs.Ythpapgbpmkgfeaa.AM
open Go Go.RowKit

section
variable {P : Program} {E : Env} {C : Ctx} {φ φ' : Nat → Option Loc} {S S' : Nat → Prop} {H H' : Heap} {w w' : World} {T : Tmps} {a : Act}

/-- A draw changes nothing that is seen. -/
theorem Step.drew : Step φ S H w φ S H w.drew := ⟨fun _ h _ => ⟨h, rfl⟩, (Step.refl (φ := φ) (S := S) (H := H) (w := w)).keepH⟩
theorem HRel.drew (hH : HRel C φ S H w) : HRel C φ S H w.drew :=
  ⟨hH.n0, hH.own, hH.vis, hH.inj, fun id => (hH.blk id).keep Step.drew rfl (fun _ _ => ⟨rfl, Iff.rfl⟩), hH.low⟩

theorem out_append_nils {o : Oper} {c : Call} {x y : Operand} {t nid : Nat} {eti : TI} {ys : List D} (ho : o.op = .call c) (hc : c.callee = .builtin .append) (hargs : c.args.toList = [x, y]) (htys : c.argTypes.toList = [t, t])
    (hE : EOk P E) (hs : sliceOf E t = some eti) (hx : ev T x = .nils) (hy : elems H (ev T y) = some ys) (hb1 : 1 ≤ eti.bytes)
    (hbytes : ys.length * eti.bytes ≤ 140737488355328) (hok : ∀ e ∈ ys, okEl eti.size e = true) (hu : hget H nid = .unborn) (hH : HRel C φ S H w) (hT : TRel φ S H w T a) :
    Out P C φ S H w o a (.own nid 0 ys.length) (hput H nid (.dat false eti.size ys)) := by
  obtain ⟨e, h1, h2, _⟩ := sliceOf_spec hE hs
  obtain ⟨i, z, d, g1, g2, g3, g4, g5, g5', g6, g7, g8, g9⟩ := h2.facts
  have hx' := ev_rel hT x
  rw [hx] at hx'
  have hy' := ev_rel hT y
  obtain ⟨B, cy, ey, szy, vals, k1, k2, k3, k4⟩ := elems_rel hH hy' hy
  generalize hcx : a.eval x = cx at hx'
  cases hx'
  have hlenys : ∀ e ∈ ys, e.cells.length = eti.size := fun e he => by have := hok e he; simp [okEl] at this; exact this.1
  by_cases hn0 : ys.length = 0
  · have hys : ys = [] := List.eq_nil_of_length_eq_zero hn0
    subst hys
    have hrun := run_append_call (w := w) ho hc hargs htys (by rw [hcx, ey]; exact run_append_zero h1 g1 none B 0 0 cy (Nat.le_refl _))
    obtain ⟨q1, q2⟩ := hH.virt hu eti.size
    refine ⟨_, w, φ, .inl hrun, .own _ _ _ _ _ _ (by rw [hget_hput]; simp) (fun fz sz els hg => ?_), q1, q2, .refl⟩
    rw [hget_hput] at hg; simp at hg
    obtain ⟨rfl, rfl, rfl⟩ := hg
    exact ⟨by simp, rfl, Nat.le_refl _, .inl rfl⟩
  · have hyne : ys ≠ [] := fun e => hn0 (by simp [e])
    obtain ⟨By, oy, hBy, hcells⟩ := k3 hyne
    obtain ⟨e0, he0⟩ := List.exists_mem_of_ne_nil ys hyne
    have hszy : szy = eti.size := by rw [← k1 e0 he0]; exact hlenys e0 he0
    subst hszy
    subst hBy
    have hnews : ∀ (j : Nat) (u : Value), vals[j]? = some u → w.cell? ((⟨By, oy, none⟩ : Addr).add j) = some u := fun j u hj => by rw [addr_add]; exact hcells j u hj
    have hflat : Flat S w eti.size ys vals := ⟨hlenys, k2, k4⟩
    have hb63 : (ys.length : Int) ≤ 9223372036854775807 := by
      have : ys.length * 1 ≤ ys.length * eti.bytes := Nat.mul_le_mul_left _ hb1
      omega
    have happ := run_append_nil (P := P) w t o.type e i z h1 g1 g4 ⟨By, oy, none⟩ ys.length cy vals (by rw [k2, g2]) hnews (by omega) hb63 (by rw [g3]; omega)
    have hrun := run_append_call (w := w) ho hc hargs htys (by rw [hcx, ey]; exact happ)
    have hge := grownCap_ge w ys.length 0 e
    have hz1 : z.cells.size = i.size := g5'.trans g2.symm
    have hcssz : (vals.toArray ++ Builtin.zeroCells z.cells (grownCap w ys.length 0 e - ys.length)).size = grownCap w ys.length 0 e * eti.size := by
      simp only [Array.size_append, List.size_toArray, size_zeroCells, hz1, g2, k2]
      rw [← Nat.add_mul]; congr 1; omega
    have hnw : HRel C φ S H w.drew := hH.drew
    obtain ⟨q1, q2, q3⟩ := hnw.alloc hu (.dat false eti.size ys) (vals.toArray ++ Builtin.zeroCells z.cells (grownCap w ys.length 0 e - ys.length)) e (fun hst => by
      have hfl0 : Flat S w.drew eti.size ys vals := Flat.keep (S := S) (S' := S) (w := w) (w' := w.drew) (fun B h _ => ⟨h, rfl⟩) hflat
      have hfl := hfl0.keep hst.keepS
      refine .inr ⟨⟨w.heap.size, 0, _⟩, _, e, by simp [upd], ⟨heap_alloc_new w.drew _, rfl⟩, hfl.wide, ?_, fun i e' k x he hx => ?_, ?_⟩
      · rw [hcssz]
        have : ys.length * eti.size ≤ grownCap w ys.length 0 e * eti.size := Nat.mul_le_mul_right _ hge
        simpa using this
      · obtain ⟨y', hy1, hy2⟩ := hfl.at_ i e' k x he hx
        refine ⟨y', ?_, hy2⟩
        have hlt := (List.getElem?_eq_some_iff.1 hy1).1
        simp only [Nat.zero_add]
        rw [Array.getElem?_append, if_pos (by simpa using hlt)]
        simpa using hy1
      · constructor
        · intro h; have := hH.low _ h; simp at this
        · intro h; cases h)
    refine ⟨_, _, _, .inl hrun, ?_, q1, ⟨fun B h hlt => q2.keepS B h hlt, q2.keepH⟩, ⟨q3.os, q3.tape, q3.output, q3.size, q3.block⟩⟩
    refine .own _ _ _ _ _ _ (by rw [hget_hput]; simp) (fun fz sz els hg => ?_)
    rw [hget_hput] at hg; simp at hg
    obtain ⟨rfl, rfl, rfl⟩ := hg
    exact ⟨by simp, rfl, hge, .inr ⟨_, by simp only [upd, if_true]; rfl, by simp, by simp only [hcssz]; simp⟩⟩

theorem out_bool {o : Oper} {op : BinOp} {ty ty' : Nat} {x y : Operand} {b b' : Bool} {ti : TI} {r : Bool} (ho : o.op = .binOp op ty x y ty') (ht : TOk P ty ti) (hsh : ti.shape = .bool) (hx : ev T x = .d (.bool b)) (hy : ev T y = .d (.bool b'))
    (hr : (op = .eql ∧ r = (b == b')) ∨ (op = .neq ∧ r = (b != b'))) (hH : HRel C φ S H w) (hT : TRel φ S H w T a) : Out P C φ S H w o a (.d (.bool r)) H := by
  obtain ⟨i, z, d, h1, h2, h3, h4, h5, h5', h6, h7, h8, h9⟩ := ht.facts
  rw [hsh] at h8
  simp only [ShapeOk] at h8
  subst h8
  have h := ev_rel hT x
  rw [hx] at h
  have h' := ev_rel hT y
  rw [hy] at h'
  refine .quiet hH (c := .bool r) ?_ (.d _ _ (.bool _))
  have hEq : (Op.equal ty (.bool b) (.bool b')).run P w = .ok (b == b') w := run_equalIn_bool' w 9999 ty b b' h6
  rcases hr with ⟨rfl, rfl⟩ | ⟨rfl, rfl⟩ <;> simp [execOp, ho, h.bool_inv, h'.bool_inv, eqGuard_bool, binOp, hEq, bne]

/-- Two lists of cells. -/
theorem eqFields_run {xs ys : Array Value} : ∀ (fields : List Field) (n : Nat) (ks : List Bool) (ds es : List D) (b : Bool),
    (∀ (i : Nat) (f : Field), fields[i]? = some f → f.name ≠ "_" ∧ f.offset = n + i ∧ ((ks[i]? = some false ∧ ∃ k, P.underlying f.type = some (.int k)) ∨ (ks[i]? = some true ∧ P.underlying f.type = some .bool))) →
    fields.length = ks.length → (∀ (i : Nat) (d : D), ds[i]? = some d → ∃ c, xs[n + i]? = some c ∧ RD S w d c) → (∀ (i : Nat) (d : D), es[i]? = some d → ∃ c, ys[n + i]? = some c ∧ RD S w d c) → eqCells ks ds es = some b →
    (Op.eqFields 9999 xs ys fields).run P w = .ok b w
  | [], n, ks, ds, es, b, _, hl, _, _, he => by
    have : ks = [] := List.eq_nil_of_length_eq_zero (by simpa using hl.symm)
    subst this
    cases ds <;> cases es <;> simp [eqCells] at he
    subst he
    simp [Op.eqFields]
  | f :: fs, n, ks, ds, es, b, hf, hl, hx, hy, he => by
    cases ks with
    | nil => simp at hl
    | cons k ks =>
    cases ds with
    | nil => simp [eqCells] at he
    | cons d ds =>
      cases es with
      | nil => simp [eqCells] at he
      | cons e es =>
        simp only [eqCells] at he
        split at he
        · rename_i p q hp hq
          simp at he; subst he
          obtain ⟨f1, f2, f3⟩ := hf 0 f rfl
          obtain ⟨c, hc, hcr⟩ := hx 0 d rfl
          obtain ⟨c', hc', hcr'⟩ := hy 0 e rfl
          simp only [Nat.add_zero] at f2 hc hc'
          have ih := eqFields_run fs (n + 1) ks ds es q (fun i g hg => by obtain ⟨a1, a2, a3⟩ := hf (i + 1) g (by simpa using hg); exact ⟨a1, by omega, by simpa using a3⟩) (by simpa using hl)
            (fun i d' hd' => by have := hx (i + 1) d' (by simpa using hd'); rwa [show n + (i + 1) = n + 1 + i by omega] at this)
            (fun i d' hd' => by have := hy (i + 1) d' (by simpa using hd'); rwa [show n + (i + 1) = n + 1 + i by omega] at this) hq
          have hpart : ∀ (A : Array Value) (c : Value), A[n]? = some c → (part f.type A f.offset).run P w = .ok c w := fun A c hA => by
            have hag : (isAgg f.type).run P w = .ok false w := by
              rcases f3 with ⟨_, k, hk⟩ | ⟨_, hk⟩ <;> rw [run_isAgg' hk] <;> rfl
            simp [part, hag, f2, hA]
          have heq : (Op.equalIn 9999 f.type c c').run P w = .ok p w := by
            rcases f3 with ⟨hk0, kk, hk⟩ | ⟨hk0, hk⟩
            · simp at hk0; subst hk0
              cases d <;> cases e <;> simp only [D.scalarEq, reduceCtorEq] at hp
              split at hp
              · rename_i hkk; subst hkk; simp at hp; subst hp; cases hcr; cases hcr'
                exact run_equalIn_int w 9998 f.type _ kk _ _ hk
              · cases hp
            · simp at hk0; subst hk0
              cases d <;> cases e <;> simp only [D.scalarEq, reduceCtorEq] at hp
              simp at hp; subst hp; cases hcr; cases hcr'
              exact run_equalIn_bool' w 9998 f.type _ _ hk
          simp only [Op.eqFields, f1, ne_eq, not_false_eq_true, if_true, Sem.run_bind, hpart xs c hc, hpart ys c' hc', heq, Result.andThen_ok]
          cases p
          · simp
          · simp [ih]
        · cases he

theorem agg_inv {v : V} {c : Value} {ds : List D} (h : RV φ S H w v c) (ha : v.isAgg = true) (hc : clos v.cells = some ds) :
    ∃ cs : List Value, c = .agg cs.toArray ∧ ∀ (i : Nat) (d : D), ds[i]? = some d → ∃ y, cs.toArray[0 + i]? = some y ∧ RD S w d y := by
  have key : ∀ (vs : List V) (cs : List Value), RVs φ S H w vs cs → clos vs = some ds → ∀ (i : Nat) (d : D), ds[i]? = some d → ∃ y, cs.toArray[0 + i]? = some y ∧ RD S w d y := fun vs cs hr hcl i d hd => by
    obtain ⟨h1, h2⟩ := hr.clos hcl
    have hi : i < cs.length := by rw [← h1]; exact (List.getElem?_eq_some_iff.1 hd).1
    exact ⟨cs[i], by simp [hi], h2 i d _ hd (List.getElem?_eq_getElem hi)⟩
  cases v with
  | agg vs => obtain ⟨cs, rfl, hr⟩ := RVs.of_agg h; exact ⟨cs, rfl, key _ _ hr hc⟩
  | d x =>
    cases x with
    | agg xs => obtain ⟨cs, rfl, hr⟩ := RVs.of_dagg h; exact ⟨cs, rfl, key _ _ hr hc⟩
    | _ => simp [V.isAgg] at ha
  | _ => simp [V.isAgg] at ha

theorem out_struct {o : Oper} {op : BinOp} {ty ty' : Nat} {x y : Operand} {ti : TI} {ds es : List D} {b r : Bool} (ho : o.op = .binOp op ty x y ty') (ht : TOk P ty ti) (hcm : ti.cmp ≠ [])
    (hxa : (ev T x).isAgg = true) (hya : (ev T y).isAgg = true) (hxc : clos (ev T x).cells = some ds) (hyc : clos (ev T y).cells = some es) (hb : eqCells ti.cmp ds es = some b)
    (hr : (op = .eql ∧ r = b) ∨ (op = .neq ∧ r = !b)) (hH : HRel C φ S H w) (hT : TRel φ S H w T a) : Out P C φ S H w o a (.d (.bool r)) H := by
  obtain ⟨i, z, d, h1, h2, h3, h4, h5, h5', h6, h7, h8, h9⟩ := ht.facts
  obtain ⟨q1, q2, fields, rfl, q3, q4⟩ := h9 hcm
  obtain ⟨cs, e1, r1⟩ := agg_inv (ev_rel hT x) hxa hxc
  obtain ⟨cs', e2, r2⟩ := agg_inv (ev_rel hT y) hya hyc
  have hf : P.fieldsOf ty = fields := by simp [Program.fieldsOf, h6]
  have hrun := eqFields_run (P := P) (w := w) (xs := cs.toArray) (ys := cs'.toArray) fields.toList 0 ti.cmp ds es b (fun i f hf => by obtain ⟨a1, a2, a3⟩ := q4 i f (by simpa using hf); exact ⟨a1, by omega, a3⟩) (by simpa using q3) r1 r2 hb
  have heq : (Op.equalIn 10000 ty (.agg cs.toArray) (.agg cs'.toArray)).run P w = .ok b w := by
    rw [run_equalIn_agg w 9999 ty cs.toArray cs'.toArray (by rw [hf]; exact h6) q2, hf]; exact hrun
  refine .quiet hH (c := .bool r) ?_ (.d _ _ (.bool _))
  have hg := fun op => run_eqGuard_agg (P := P) w op ty x y cs.toArray cs'.toArray q1
  rcases hr with ⟨rfl, rfl⟩ | ⟨rfl, rfl⟩
  · simp only [execOp, ho, e1, e2, Sem.run_bind, hg, Result.andThen_ok, run_eql_struct, heq, Sem.run_pure]
  · simp only [execOp, ho, e1, e2, Sem.run_bind, hg, Result.andThen_ok, run_neq_struct, heq, Sem.run_pure]

theorem out_min {o : Oper} {c : Call} {x y : Operand} {k k' : IntKind} {n m : Int} (ho : o.op = .call c) (hc : c.callee = .builtin .min) (hargs : c.args.toList = [x, y]) (hx : ev T x = .d (.int k n)) (hy : ev T y = .d (.int k' m))
    (hH : HRel C φ S H w) (hT : TRel φ S H w T a) : Out P C φ S H w o a (.d (.int k (if m < n then m else n))) H := by
  have h := ev_rel hT x
  rw [hx] at h
  have h' := ev_rel hT y
  rw [hy] at h'
  refine .quiet hH (c := .int k (if m < n then m else n)) ?_ (.d _ _ (.int _ _))
  have e1 : c.args = #[x, y] := by rw [← hargs]
  simp [execOp, ho, resolve, hc, e1, invoke, builtin, Builtin.min_, h.int_inv, h'.int_inv, Builtin.min2]

theorem out_max {o : Oper} {c : Call} {x y : Operand} {k k' : IntKind} {n m : Int} (ho : o.op = .call c) (hc : c.callee = .builtin .max) (hargs : c.args.toList = [x, y]) (hx : ev T x = .d (.int k n)) (hy : ev T y = .d (.int k' m))
    (hH : HRel C φ S H w) (hT : TRel φ S H w T a) : Out P C φ S H w o a (.d (.int k (if m > n then m else n))) H := by
  have h := ev_rel hT x
  rw [hx] at h
  have h' := ev_rel hT y
  rw [hy] at h'
  refine .quiet hH (c := .int k (if m > n then m else n)) ?_ (.d _ _ (.int _ _))
  have e1 : c.args = #[x, y] := by rw [← hargs]
  simp [execOp, ho, resolve, hc, e1, invoke, builtin, Builtin.max_, h.int_inv, h'.int_inv, Builtin.max2]

theorem zeroD_cells {ti : TI} {z : D} (h : zeroD ti = some z) : clos ti.zero = some z.cells := by
  unfold zeroD at h
  split at h
  · rename_i zs hzs
    rw [hzs]
    split at h
    · simp at h; subst h; rfl
    · split at h
      · split at h
        · rename_i z' ho
          simp at h; subst h
          cases z' <;> simp [V.one] at ho <;> rfl
        · cases h
      · cases h
  · cases h

theorem zeroCells_get (zero : Array Value) (n i k : Nat) (hi : i < n) (hk : k < zero.size) : (Builtin.zeroCells zero n).toList[i * zero.size + k]? = zero[k]? := by
  have hlt : i * zero.size + k < n * zero.size := by
    have : (i + 1) * zero.size ≤ n * zero.size := Nat.mul_le_mul_right _ hi
    rw [Nat.add_mul, Nat.one_mul] at this; omega
  have hm : (i * zero.size + k) % zero.size = k := by rw [Nat.mul_comm, Nat.mul_add_mod]; exact Nat.mod_eq_of_lt hk
  simp [Builtin.zeroCells, hlt, hm, hk]

theorem out_clear {o : Oper} {c : Call} {x : Operand} {t : Nat} {eti : TI} {id off len sz : Nat} {els : List D} {z : D} (ho : o.op = .call c) (hc : c.callee = .builtin .clear) (hargs : c.args.toList = [x]) (htys : c.argTypes.toList = [t]) (hE : EOk P E)
    (hs : sliceOf E t = some eti) (hx : ev T x = .own id off len) (hg : hget H id = .dat false sz els) (hz : zeroD eti = some z) (hsz : sz = eti.size) (hok : okEl eti.size z = true) (hH : HRel C φ S H w) (hT : TRel φ S H w T a) :
    Out P C φ S H w o a (.d (.tuple [])) (hput H id (.dat false sz (els.take off ++ List.replicate len z ++ els.drop (off + len)))) := by
  obtain ⟨e, h1, het, _⟩ := sliceOf_spec hE hs
  obtain ⟨i, zv, d, f1, f2, f3, f4, f5, f5', f6, f7, f8, f9⟩ := het.facts
  have h := ev_rel hT x
  rw [hx] at h
  generalize hcx : a.eval x = cx at h
  have e1 : c.args = #[x] := by rw [← hargs]
  have e2 : c.argTypes = #[t] := by rw [← htys]
  simp only [okEl, Bool.and_eq_true, beq_iff_eq] at hok
  have hzc := zeroD_cells hz
  obtain ⟨z1, z2⟩ := clos_spec hzc
  rw [f5] at z1 z2
  cases h with | own _ _ _ l cap A hub hh =>
    obtain ⟨r1, r0, r2, r3⟩ := hh false sz els hg
    subst r0
    rcases Nat.eq_zero_or_pos l with hl0 | hl0
    · subst hl0
      have hsame : els.take off ++ List.replicate 0 z ++ els.drop (off + 0) = els := by simp
      rw [hsame]
      have hrun : (execOp a.eval o).run P w = .ok (.value (.tuple #[])) w := by
        cases A with
        | none => simp [execOp, ho, resolve, hc, e1, e2, invoke, builtin, Builtin.clear_, run_underlying h1, hcx]
        | some A => simp [execOp, ho, resolve, hc, e1, e2, invoke, builtin, Builtin.clear_, run_underlying h1, hcx]
      have hput_same : ∀ i, hget (hput H id (.dat false sz els)) i = hget H i := fun i => by
        rw [hget_hput]; split
        · rename_i e; rw [e, hg]
        · rfl
      have hs' : Step φ S H w φ S (hput H id (.dat false sz els)) w := ⟨.refl _ _, fun i hi => by
        rw [hput_same]; exact (Step.refl (φ := φ) (S := S) (H := H) (w := w)).keepH i hi⟩
      refine ⟨_, _, φ, .inl hrun, .d _ _ (.tuple [] [] rfl (fun i d c h => by simp at h)), ⟨hH.n0, hH.own, hH.vis, hH.inj, fun i => ?_, hH.low⟩, hs', .refl⟩
      rw [hput_same]
      exact (hH.blk i).keep hs' rfl (fun _ _ => ⟨rfl, Iff.rfl⟩)
    · rcases r3 with r3 | ⟨L, hL, rfl, hfitc⟩
      · omega
      have hb := hH.blk id
      rw [hg] at hb
      rcases hb with ⟨hn, _⟩ | ⟨L', cs, t', h1', h3, h4, h5, h6, h7⟩
      · subst hn; simp at r1; omega
      rw [hL] at h1'; cases h1'
      let vals : List Value := (Builtin.zeroCells zv.cells l).toList
      have hzs : zv.cells.size = sz := by rw [hsz]; exact f5'
      have hvl : vals.length = l * sz := by simp [vals, Builtin.zeroCells, hzs]
      have hone : ∀ v ∈ vals, v.oneCell' = true := fun v hv => by
        obtain ⟨q, hq⟩ := List.mem_iff_getElem?.1 hv
        have hql : q < l * sz := by rw [← hvl]; exact (List.getElem?_eq_some_iff.1 hq).1
        have hpos : 0 < sz := Nat.pos_of_ne_zero (fun e => by rw [e] at hql; simp at hql)
        have hk : q % sz < zv.cells.size := by rw [hzs]; exact Nat.mod_lt _ hpos
        have hi : q / sz < l := by rw [Nat.div_lt_iff_lt_mul hpos]; exact hql
        have := zeroCells_get zv.cells l (q / sz) (q % sz) hi hk
        rw [hzs, Nat.div_add_mod'] at this
        rw [show vals[q]? = _ from this] at hq
        have hzk : (ofVal zv.cells[q % sz]).clo = z.cells[q % sz]? := by
          have hk2 : q % sz < z.cells.length := by rw [← z1]; simpa using hk
          rw [List.getElem?_eq_getElem hk2]
          exact z2 (q % sz) _ _ (by simp [hk]) (List.getElem?_eq_getElem hk2)
        have hk2 : q % sz < z.cells.length := by rw [← z1]; simpa using hk
        have ho1 := List.all_eq_true.1 hok.2 _ (List.getElem_mem hk2)
        rw [Array.getElem?_eq_getElem hk] at hq
        simp at hq; subst hq
        have hrv : RV φ S H w (ofVal zv.cells[q % sz]) zv.cells[q % sz] := ofVal_rel _
        rw [List.getElem?_eq_getElem hk2] at hzk
        exact (RV.d _ _ (hrv.clo_rel hzk) : RV φ S H w (.d _) _).one_inv ho1
      have hmul : (off + l) * sz ≤ els.length * sz := Nat.mul_le_mul_right _ r1
      rw [Nat.add_mul] at hmul
      have hfit' : L.off + off * sz + vals.length ≤ cs.toList.length := by rw [hvl]; simp; omega
      have hst := run_storeCells_at P L.blk (L.off + off * sz) t' vals 0 cs w h3.heap (by simpa using hfit') hone
      simp only [Nat.add_zero] at hst
      have hrun : (execOp a.eval o).run P w = .ok (.value (.tuple #[])) (w.setRow L.blk (splice cs.toList (L.off + off * sz) vals).toArray) := by
        obtain ⟨l', rfl⟩ : ∃ l', l = l' + 1 := ⟨l - 1, by omega⟩
        simp only [splice]
        simp [execOp, ho, resolve, hc, e1, e2, invoke, builtin, Builtin.clear_, run_underlying h1, hcx, run_zeroValue' f1 f4, vals] at hst ⊢
        simp [hst]
      have hsz' : (splice cs.toList (L.off + off * sz) vals).toArray.size = cs.size := by
        rw [List.size_toArray, splice_length _ _ _ hfit']; simp
      have hnl : (els.take off ++ List.replicate l z ++ els.drop (off + l)).length = els.length := by simp; omega
      have hget : ∀ i', (els.take off ++ List.replicate l z ++ els.drop (off + l))[i']? = if off ≤ i' ∧ i' < off + l then some z else els[i']? := fun i' => by
        rw [List.append_assoc, List.getElem?_append]
        have hlt : (els.take off).length = off := by simp; omega
        rw [hlt]
        by_cases g1 : i' < off
        · rw [if_pos g1, List.getElem?_take, if_pos g1, if_neg (by omega)]
        · rw [if_neg g1, List.getElem?_append, List.length_replicate]
          by_cases g2 : i' < off + l
          · rw [if_pos (by omega), if_pos ⟨by omega, g2⟩, List.getElem?_replicate, if_pos (by omega)]
          · rw [if_neg (by omega), if_neg (by omega), List.getElem?_drop]
            congr 1; omega
      obtain ⟨q1, q2, q3⟩ := hH.write hL h3 (fun hs => by simpa using h7.1 hs) hsz' (.dat false sz (els.take off ++ List.replicate l z ++ els.drop (off + l)))
        (by rw [hg]; simp only [SameShape]; exact ⟨trivial, by omega⟩)
        (fun hs => .inr ⟨L, _, t', hL, ⟨setRow_heap w L.blk cs _ t' (0, 0) h3.heap, h3.size.trans hsz'.symm⟩, fun e' he' => by
          simp only [List.mem_append] at he'
          rcases he' with (he' | he') | he'
          · exact h4 e' (List.mem_of_mem_take he')
          · rw [List.eq_of_mem_replicate he', hsz]; exact hok.1
          · exact h4 e' (List.mem_of_mem_drop he'), by rw [hsz', hnl]; exact h5, fun i' e' k x' he' hx' => by
          rw [hget] at he'
          have hcell : (splice cs.toList (L.off + off * sz) vals).toArray[L.off + (i' * sz + k)]? = if L.off + off * sz ≤ L.off + (i' * sz + k) ∧ L.off + (i' * sz + k) < L.off + off * sz + l * sz then vals[L.off + (i' * sz + k) - (L.off + off * sz)]? else cs[L.off + (i' * sz + k)]? := by
            rw [List.getElem?_toArray, splice_get _ _ _ hfit', hvl]
            simp
          rw [hcell]
          by_cases hin : off ≤ i' ∧ i' < off + l
          · rw [if_pos hin] at he'
            cases he'
            have hk : k < sz := by have := (List.getElem?_eq_some_iff.1 hx').1; rw [hok.1, ← hsz] at this; exact this
            have hm1 : off * sz ≤ i' * sz := Nat.mul_le_mul_right _ hin.1
            have hm2 : (i' + 1) * sz ≤ (off + l) * sz := Nat.mul_le_mul_right _ hin.2
            rw [Nat.add_mul, Nat.add_mul, Nat.one_mul] at hm2
            rw [if_pos (by omega)]
            have hidx : L.off + (i' * sz + k) - (L.off + off * sz) = (i' - off) * zv.cells.size + k := by
              rw [hzs, Nat.sub_mul]; omega
            have hkz : k < zv.cells.size := by omega
            rw [hidx, show vals[(i' - off) * zv.cells.size + k]? = _ from zeroCells_get zv.cells l (i' - off) k (by omega) hkz]
            refine ⟨zv.cells[k], Array.getElem?_eq_getElem hkz, ?_⟩
            have hrv : RV φ S H w (ofVal zv.cells[k]) zv.cells[k] := ofVal_rel _
            exact (hrv.clo_rel (z2 k _ x' (by simp [hkz]) hx')).keep hs.keepS
          · rw [if_neg hin] at he'
            have hk : k < sz := by
              have := (List.getElem?_eq_some_iff.1 hx').1
              rw [h4 e' (List.mem_of_getElem? he')] at this; exact this
            have hneg : ¬ (L.off + off * sz ≤ L.off + (i' * sz + k) ∧ L.off + (i' * sz + k) < L.off + off * sz + l * sz) := by
              intro ⟨g1, g2⟩
              rcases Nat.lt_or_ge i' off with hlt | hge
              · have : (i' + 1) * sz ≤ off * sz := Nat.mul_le_mul_right _ hlt
                rw [Nat.add_mul, Nat.one_mul] at this; omega
              · have : (off + l) * sz ≤ i' * sz := Nat.mul_le_mul_right _ (by omega)
                rw [Nat.add_mul] at this; omega
            rw [if_neg hneg]
            obtain ⟨c', hc1, hc2⟩ := h6 i' e' k x' he' hx'
            exact ⟨c', hc1, hc2.keep hs.keepS⟩, h7⟩)
      exact ⟨_, _, φ, .inl hrun, .d _ _ (.tuple [] [] rfl (fun i d c h => by simp at h)), q1, q2, q3⟩

end
end Go.Proofs.Ythpapgbpmkgfeaa.AM
