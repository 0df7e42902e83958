/- The code's meaning in the machine is the model's; a function's contract. -/
import Derived.Test.YthpapgbpmkgfeaaAm19
set_option linter.all false
namespace Go.Proofs.Ythpapgbpmkgfeaa.AM
open Go Go.RowKit

section
variable {P : Program} {E : Env} {n m : Nat}

theorem loop_sound {x : Code} {F : Tmps → Heap → (Ex → Tmps → Heap → Prop) → Prop}
    (hF : ∀ {T : Tmps} {H : Heap} {Q : Ex → Tmps → Heap → Prop} {C : Ctx} {φ : Nat → Option Loc} {S : Nat → Prop} {a : Act} {w : World}, Stands C n T H φ S a w → F T H Q → x.wp P (PostQ C n m φ S H w Q) a w) {Q : Ex → Tmps → Heap → Prop} :
    ∀ (k : Nat) {T : Tmps} {H : Heap} {C : Ctx} {φ : Nat → Option Loc} {S : Nat → Prop} {a : Act} {w : World}, Stands C n T H φ S a w → aloop m F Q k T H → ∀ (b : Frame) (kk : List Item) (cs : List Frame),
      ∃ e a' w', PostQ C n m φ S H w Q e a' w' ∧ Arrives P (lone (b.at a (.code x :: .inLoop x :: kk)) cs w) b kk cs e a' w'
  | 0, _, _, _, _, _, _, _, _, h => h.elim
  | k + 1, T, H, C, φ, S, a, w, hst, h => by
    intro b kk cs
    obtain ⟨e, a1, w1, ⟨e', T', H', φ', S', hq, rfl, hst', hs', hk'⟩, harr⟩ := hF hst h b (.inLoop x :: kk) cs
    cases e' with
    | normal =>
      obtain ⟨T'', H'', hw, hl⟩ := hq
      obtain ⟨φ'', S'', g1, g2, g3⟩ := hw C φ' S' w1 a1 hst'.heap hst'.tmps
      obtain ⟨e2, a2, w2, hp, harr2⟩ := loop_sound hF k (⟨g1, g2, hst'.size, hst'.defers⟩ : Stands C n T'' H'' φ'' S'' a1 w1) hl b kk cs
      exact ⟨e2, a2, w2, (hp.from g3 .refl).from hs' hk', .of_steps (Steps.trans harr (.one step_inLoop)) harr2⟩
    | exit id => exact ⟨.exit id, a1, w1, ⟨.exit id, T', H', φ', S', hq, rfl, hst', hs', hk'⟩, .pass (x := .inLoop x) rfl (fun _ _ => .inl (by simp)) harr⟩
    | ret => exact ⟨.ret, a1, w1, ⟨.ret, T', H', φ', S', hq, rfl, hst', hs', hk'⟩, .pass (x := .inLoop x) rfl (fun _ _ => .inl (by simp)) harr⟩

theorem TRel.told_op {φ : Nat → Option Loc} {S : Nat → Prop} {H : Heap} {w : World} {T : Tmps} {a : Act} (hT : TRel φ S H w T a) {c : Operand} {b : Bool} (h : ev T c = .d (.bool b)) : TRel φ S H w (AM.told c b T) a := by
  cases c with
  | tmp t =>
    have := hT t
    simp only [ev] at h
    rw [h] at this
    exact hT.told this
  | _ => exact hT

theorem awp_sound (hE : EOk P E) (hmix : P.follows .mixedOrders = true) : ∀ (c : Code) {T : Tmps} {H : Heap} {Q : Ex → Tmps → Heap → Prop} {C : Ctx} {φ : Nat → Option Loc} {S : Nat → Prop} {a : Act} {w : World},
    Stands C n T H φ S a w → awp P E n m c T H Q → c.wp P (PostQ C n m φ S H w Q) a w
  | .skip, T, H, Q, C, φ, S, a, w, hst, h => wp_skip ⟨.normal, T, H, φ, S, h, rfl, hst, .refl, .refl⟩
  | .label _, T, H, Q, C, φ, S, a, w, hst, h => wp_label ⟨.normal, T, H, φ, S, h, rfl, hst, .refl, .refl⟩
  | .exit id, T, H, Q, C, φ, S, a, w, hst, h => wp_exit ⟨.exit id, T, H, φ, S, h, rfl, hst, .refl, .refl⟩
  | .ret, T, H, Q, C, φ, S, a, w, hst, h => wp_ret ⟨.ret, T, H, φ, S, h, rfl, hst, .refl, .refl⟩
  | .region _ ops false, T, H, Q, C, φ, S, a, w, hst, h => by
    refine wp_region ?_
    have := aops_sound (m := m) hE (all := ops) (Q := Q .normal) (Q' := PostQ C n m φ S H w Q) ops.toList 0 (fun i => by simp) (by simp) hst h
      (fun a' w' ⟨T', H', φ', S', h1, h2, h3, h4⟩ => ⟨.normal, T', H', φ', S', h1, rfl, h2, h3, h4⟩)
    simpa using this
  | .seq x y, T, H, Q, C, φ, S, a, w, hst, h => by
    refine wp_seq (wp_mono (awp_sound hE hmix x hst h) ?_)
    rintro e a1 w1 ⟨e', T', H', φ', S', hq, rfl, hst', hs', hk'⟩
    cases e' with
    | normal => exact wp_mono (awp_sound hE hmix y hst' hq) (fun e a2 w2 hp => hp.from hs' hk')
    | exit id => exact ⟨.exit id, T', H', φ', S', hq, rfl, hst', hs', hk'⟩
    | ret => exact ⟨.ret, T', H', φ', S', hq, rfl, hst', hs', hk'⟩
  | .cond c x y, T, H, Q, C, φ, S, a, w, hst, h => by
    simp only [awp] at h
    split at h
    · rename_i b hb
      have hv := ev_rel hst.tmps c
      rw [hb] at hv
      refine wp_cond hv.bool_inv ?_
      cases b with
      | true => simp only [if_true] at h ⊢; exact awp_sound hE hmix x ⟨hst.heap, hst.tmps.told_op hb, hst.size, hst.defers⟩ h
      | false => simp only [Bool.false_eq_true, if_false] at h ⊢; exact awp_sound hE hmix y ⟨hst.heap, hst.tmps.told_op hb, hst.size, hst.defers⟩ h
    · exact h.elim
  | .block id x, T, H, Q, C, φ, S, a, w, hst, h => by
    refine wp_block (wp_mono (awp_sound hE hmix x hst h) ?_)
    rintro e a1 w1 ⟨e', T', H', φ', S', hq, rfl, hst', hs', hk'⟩
    cases e' with
    | normal => exact ⟨.normal, T', H', φ', S', hq, rfl, hst', hs', hk'⟩
    | exit i =>
      simp only [Exit.inBlock, Ex.of]
      simp only at hq
      split at hq
      · rename_i e; subst e; rw [if_pos rfl]; exact ⟨.normal, T', H', φ', S', hq, rfl, hst', hs', hk'⟩
      · rename_i e; rw [if_neg e]; exact ⟨.exit i, T', H', φ', S', hq, rfl, hst', hs', hk'⟩
    | ret => exact ⟨.ret, T', H', φ', S', hq, rfl, hst', hs', hk'⟩
  | .loop x, T, H, Q, C, φ, S, a, w, hst, h => by
    obtain ⟨T0, H0, hw, k, hl⟩ := h
    obtain ⟨φ0, S0, g1, g2, g3⟩ := hw C φ S w a hst.heap hst.tmps
    intro b kk cs
    obtain ⟨e, a', w', hp, harr⟩ := loop_sound (x := x) (F := awp P E n m x) (fun hst h => awp_sound hE hmix x hst h) k (⟨g1, g2, hst.size, hst.defers⟩ : Stands C n T0 H0 φ0 S0 a w) hl b kk cs
    exact ⟨e, a', w', hp.from g3 .refl, .of_steps (.one step_loop) harr⟩
  | .region _ ops true, T, H, Q, C, φ, S, a, w, hst, h => by
    obtain ⟨plan, hp, hd⟩ := h
    exact region_sound hE hmix hst hp hd
  | .rangeFunc .., _, _, _, _, _, _, _, _, _, h => h.elim
  | .scope _, _, _, _, _, _, _, _, _, _, h => h.elim
  | .goto _, _, _, _, _, _, _, _, _, _, h => h.elim
  | .refuse _, _, _, _, _, _, _, _, _, _, h => h.elim

/-! ### a function -/

/-- A result variable, read. -/
def resV (E : Env) (T : Tmps) (H : Heap) : ResultVar → Option V
  | .tmp t => some (tget T t)
  | .cell t ty => match E ty, tget T t with
    | some ti, .ptr id i j => match hget H id with
      | .box _ cells => if i = 0 then
          if ti.agg then (if j + ti.size ≤ cells.length then some (.agg ((cells.drop j).take ti.size)) else none)
          else cells[j]?
        else none
      | _ => none
    | _, _ => none

def resVs (E : Env) (T : Tmps) (H : Heap) : List ResultVar → Option (List V)
  | [] => some []
  | r :: rs => match resV E T H r, resVs E T H rs with
    | some v, some vs => some (v :: vs)
    | _, _ => none

def resOf (E : Env) (T : Tmps) (H : Heap) (rs : List ResultVar) : Option V :=
  match resVs E T H rs with
  | some [v] => some v
  | some vs => some (.tuple vs)
  | none => none

/-- The function's end: closed data. -/
def Fin (E : Env) (rs : List ResultVar) (r : D) : Ex → Tmps → Heap → Prop
  | .exit _, _, _ => False
  | _, T, H => ∃ v, resOf E T H rs = some v ∧ xport H 12 v = some r

theorem run_loadVar_of {o : Oper} {t : Nat} {x : Operand} {c : Value} {P : Program} {a : Act} {w : World} {A : Addr} (ho : o.op = .load t x) (hx : a.eval x = .pointer (some A)) (h : (execOp a.eval o).run P w = .ok (.value c) w) : (loadVar t A).run P w = .ok c w := by
  simp only [execOp, ho, Instr.loadAt, hx, Instr.sureAddr, Sem.run_bind, Sem.run_pure, Result.andThen_ok] at h
  generalize (loadVar t A).run P w = r at h
  cases r with
  | ok c' w' => simp at h; obtain ⟨rfl, rfl⟩ := h; rfl
  | halt => simp at h

theorem resV_sound {C : Ctx} {φ : Nat → Option Loc} {S : Nat → Prop} {H : Heap} {w : World} {T : Tmps} {a : Act} (hE : EOk P E) (hst : Stands C n T H φ S a w) {rv : ResultVar} {v : V} (h : resV E T H rv = some v) :
    ∃ c, ((match rv with | .tmp t => pure (a.tmps.getD t undef) | .cell t ty => do loadVar ty (← asAddr (a.tmps.getD t undef)) : Sem Value)).run P w = .ok c w ∧ RV φ S H w v c := by
  cases rv with
  | tmp t => simp [resV] at h; subst h; exact ⟨_, rfl, hst.tmps t⟩
  | cell t ty =>
    simp only [resV] at h
    split at h
    · rename_i ti id i j hti hx
      split at h
      · rename_i fz cells hg
        split at h
        · rename_i hi
          have hl : if ti.agg then j + ti.size ≤ cells.length ∧ v = .agg ((cells.drop j).take ti.size) else cells[j]? = some v := by
            split at h
            · split at h
              · rename_i h1 h2; rw [if_pos h1]; simp at h; exact ⟨h2, h.symm⟩
              · cases h
            · rename_i h1; rw [if_neg h1]; exact h
          let o : Oper := { (default : Oper) with op := .load ty (.tmp t) }
          have hp := hst.tmps t
          rw [hx] at hp
          obtain ⟨L, hL, hc, _⟩ := hp.ptr_inv (sz := cells.length) (by rw [hg]; rfl)
          -- the load leaves the world alone
          obtain ⟨c2, hq, hv2⟩ := load_box_run (P := P) (o := o) (x := .tmp t) (T := T) (a := a) rfl (hE _ _ hti) (by simpa [ev] using hx) hi hg hl hst.heap hst.tmps
          refine ⟨c2, ?_, hv2⟩
          have := run_loadVar_of (o := o) (t := ty) (x := .tmp t) rfl (by simpa [Act.eval] using hc) hq
          simp [hc, asAddr, this]
        · cases h
      · cases h
    · cases h

theorem resVs_sound {C : Ctx} {φ : Nat → Option Loc} {S : Nat → Prop} {H : Heap} {w : World} {T : Tmps} {a : Act} (hE : EOk P E) (hst : Stands C n T H φ S a w) : ∀ (rs : List ResultVar) (vs : List V), resVs E T H rs = some vs →
    ∃ cs, (rs.mapM (fun | .tmp t => pure (a.tmps.getD t undef) | .cell t ty => do loadVar ty (← asAddr (a.tmps.getD t undef)) : ResultVar → Sem Value)).run P w = .ok cs w ∧ RVs φ S H w vs cs
  | [], vs, h => by simp [resVs] at h; subst h; exact ⟨[], by simp, .nil⟩
  | r :: rs, vs, h => by
    simp only [resVs] at h
    split at h
    · rename_i v vs' hv hvs
      simp at h; subst h
      obtain ⟨c, h1, h2⟩ := resV_sound hE hst hv
      obtain ⟨cs, h3, h4⟩ := resVs_sound hE hst rs vs' hvs
      refine ⟨c :: cs, ?_, .cons h2 h4⟩
      cases r <;> (simp only [List.mapM_cons, Sem.run_bind] at h1 ⊢; simp only [h1, Result.andThen_ok, h3, Sem.run_pure])
    · cases h

theorem resOf_sound {C : Ctx} {φ : Nat → Option Loc} {S : Nat → Prop} {H : Heap} {w : World} {T : Tmps} {a : Act} {fn : Func} {v : V} (hE : EOk P E) (hst : Stands C n T H φ S a w) (h : resOf E T H fn.results.toList = some v) :
    ∃ c, (results fn a.tmps).run P w = .ok c w ∧ RV φ S H w v c := by
  unfold resOf at h
  obtain ⟨vs, hvs⟩ : ∃ vs, resVs E T H fn.results.toList = some vs := by
    cases hr : resVs E T H fn.results.toList with
    | none => simp [hr] at h
    | some vs => exact ⟨vs, rfl⟩
  obtain ⟨cs, h1, h2⟩ := resVs_sound hE hst _ vs hvs
  have hrun : (results fn a.tmps).run P w = .ok (if h : cs.toArray.size = 1 then cs.toArray[0] else .tuple cs.toArray) w := by
    unfold results
    rw [Array.mapM_eq_mapM_toList]
    simp only [Sem.run_bind, Sem.run_map]
    erw [h1]
    rfl
  rw [hrun]
  refine ⟨_, rfl, ?_⟩
  rw [hvs] at h
  match vs, cs, h2, h with
  | [v0], [c0], h2, h => simp at h; subst h; simpa using h2.at_ 0 v0 c0 rfl rfl
  | [], cs, h2, h =>
    have : cs = [] := List.eq_nil_of_length_eq_zero h2.len.symm
    subst this; simp at h; subst h
    exact .tuple [] [] rfl (fun i v c h => by simp at h)
  | v0 :: v1 :: vs, cs, h2, h =>
    simp at h; subst h
    have hl := h2.len
    simp at hl
    rw [dif_neg (by simp; omega)]
    exact .tuple _ _ h2.len h2.at_
  | [v0], [], h2, h => have := h2.len; simp at this
  | [v0], c0 :: c1 :: cs, h2, h => have := h2.len; simp at this

/-- The slots at a function's begin. -/
def initT : Nat → List D → Tmps
  | _, [] => []
  | i, d :: r => (i, .d d) :: initT (i + 1) r

theorem initT_get : ∀ (ds : List D) (i t : Nat), tget (initT i ds) t = if i ≤ t then (match ds[t - i]? with | some d => .d d | none => .d .undef) else .d .undef
  | [], i, t => by simp [initT, tget]
  | d :: r, i, t => by
    simp only [initT, tget]
    by_cases h : t = i
    · subst h; simp
    · rw [if_neg h, initT_get r (i + 1) t]
      by_cases h1 : i ≤ t
      · rw [if_pos h1, if_pos (by omega)]
        have : t - i = (t - (i + 1)) + 1 := by omega
        rw [this]; simp
      · rw [if_neg h1, if_neg (by omega)]

/-- A FUNCTION's CONTRACT. -/
theorem CSpec.of_awp {f : Nat} {fn : Func} {body : Code} {args : List D} {r : D} (hE : EOk P E) (hmix : P.follows .mixedOrders = true) (hf : P.funcs[f]? = some fn) (hb : fn.body = some body) (hcall : Callable P f) (hn : args.length ≤ fn.ntmps)
    (h : awp P E fn.ntmps 0 body (initT 0 args) [] (Fin E fn.results.toList r)) : CSpec P f args r := by
  refine ⟨hcall, fun S0 w cs hS0 hlen hrel => ?_⟩
  have hsz : (cs.toArray ++ Array.replicate (fn.ntmps - cs.toArray.size) undef).size = fn.ntmps := by simp; omega
  have hst : Stands ⟨w.heap.size, fun _ => False, S0⟩ fn.ntmps (initT 0 args) [] (fun _ => none) S0 { tmps := cs.toArray ++ Array.replicate (fn.ntmps - cs.toArray.size) undef, defers := [] } w := by
    refine ⟨⟨Nat.le_refl _, (fun id L h => by cases h), (fun B hB => .inl hB), (fun i j L L' h => by cases h), (fun id => rfl), hS0⟩, fun t => ?_, hsz, rfl⟩
    rw [initT_get]
    simp only [Nat.zero_le, if_true, Nat.sub_zero]
    by_cases ht : t < args.length
    · have hc : t < cs.length := by omega
      rw [List.getElem?_eq_getElem ht]
      have : (cs.toArray ++ Array.replicate (fn.ntmps - cs.toArray.size) undef).getD t undef = cs[t] := by
        simp [Array.getElem?_append, hc]
      rw [this]
      exact .d _ _ (hrel t _ _ (List.getElem?_eq_getElem ht) (List.getElem?_eq_getElem hc))
    · rw [List.getElem?_eq_none (by omega)]
      exact .d _ _ (.undef _)
  refine calls_of_wp hf hb (wp_mono (awp_sound (m := 0) hE hmix body hst h) ?_)
  rintro e a' w' ⟨e', T', H', φ', S', hq, rfl, hst', hs', hk'⟩
  have fin : (∃ v, resOf E T' H' fn.results.toList = some v ∧ xport H' 12 v = some r) → a'.defers = [] ∧ ∃ v, (results fn a'.tmps).run P w' = .ok v w' ∧ ∃ c S', Ending.returned v = .returned c ∧ RD S' w' r c ∧ (∀ B, S' B → (S0 B ∨ w.heap.size ≤ B) ∧ B < w'.heap.size) ∧ Kp ⟨w.heap.size, fun _ => False, S0⟩ w w' := by
    rintro ⟨v, hv, hx⟩
    obtain ⟨c, hrun, hc⟩ := resOf_sound hE hst' hv
    refine ⟨hst'.defers, c, hrun, c, fun B => (S0 B ∨ w.heap.size ≤ B) ∧ B < w'.heap.size, rfl, ?_, fun B hB => hB, hk'⟩
    have hv1 : ∀ B, S' B → S0 B ∨ w.heap.size ≤ B := fun B hB => by
      rcases hst'.heap.vis B hB with h | h | h
      · exact .inl h
      · exact h.elim
      · exact .inr h
    have hv2 : ∀ i L, φ' i = some L → S0 L.blk ∨ w.heap.size ≤ L.blk := fun i L hL => by
      rcases hst'.heap.own i L hL with h | h
      · exact h.elim
      · exact .inr h
    exact xport_rel hst'.heap (fun B hB => ⟨hv1 B hB, hst'.heap.low B hB⟩) 12 v c r (fun i _ L hL => ⟨hv2 i L hL, hst'.heap.lt hL⟩) hc hx
  cases e' with
  | normal => exact fin hq
  | ret => exact fin hq
  | exit id => exact hq.elim

end
end Go.Proofs.Ythpapgbpmkgfeaa.AM
