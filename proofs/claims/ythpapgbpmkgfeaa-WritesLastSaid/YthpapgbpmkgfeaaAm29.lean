/- A result in own blocks, as closed data. -/
import Derived.Test.YthpapgbpmkgfeaaAm25
set_option linter.all false
namespace Go.Proofs.Ythpapgbpmkgfeaa.AM
open Go Go.RowKit

theorem FSpec.cspec {P : Program} {f : Nat} {args : List D} {r : V} {H1 : Heap} {d : D} (h : FSpec P f args r H1) (hx : xport H1 12 r = some d) : CSpec P f args d := by
  refine ⟨h.1, fun S0 w cs hS0 hlen hrel => (h.2 S0 w cs hS0 hlen hrel).mono ?_⟩
  rintro e w' ⟨c, φ1, S1, rfl, hr, hH1, hk⟩
  refine ⟨c, fun B => (S0 B ∨ w.heap.size ≤ B) ∧ B < w'.heap.size, rfl, ?_, fun B hB => hB, hk⟩
  have hv1 : ∀ B, S1 B → S0 B ∨ w.heap.size ≤ B := fun B hB => by
    rcases hH1.vis B hB with h | h | h
    · exact .inl h
    · exact h.elim
    · exact .inr h
  have hv2 : ∀ i L, φ1 i = some L → S0 L.blk ∨ w.heap.size ≤ L.blk := fun i L hL => by
    rcases hH1.own i L hL with h | h
    · exact h.elim
    · exact .inr h
  exact xport_rel hH1 (fun B hB => ⟨hv1 B hB, hH1.low B hB⟩) 12 r c d (fun i _ L hL => ⟨hv2 i L hL, hH1.lt hL⟩) hr hx


end Go.Proofs.Ythpapgbpmkgfeaa.AM

/- Cutting a body: what a part of the code comes to, said of states that are the same but for what is no longer asked. -/
set_option linter.all false
namespace Go.Proofs.Ythpapgbpmkgfeaa.AM
open Go Go.RowKit

section
variable {P : Program} {E : Env} {n m : Nat}

/-- Whoever stands here comes, by this code, to where Q holds. -/
def Snd (P : Program) (E : Env) (n m : Nat) (c : Code) (T : Tmps) (H : Heap) (Q : Ex → Tmps → Heap → Prop) : Prop :=
  ∀ (C : Ctx) (φ : Nat → Option Loc) (S : Nat → Prop) (a : Act) (w : World), Stands C n T H φ S a w → c.wp P (PostQ C n m φ S H w Q) a w

theorem Snd.of_awp (hE : EOk P E) (hmix : P.follows .mixedOrders = true) {c : Code} {T : Tmps} {H : Heap} {Q : Ex → Tmps → Heap → Prop} (h : awp P E n m c T H Q) : Snd P E n m c T H Q :=
  fun C φ S a w hst => awp_sound hE hmix c hst h

theorem Snd.weak {c : Code} {T T' : Tmps} {H H' : Heap} {Q : Ex → Tmps → Heap → Prop} (hw : Weak m T H T' H') (h : Snd P E n m c T' H' Q) : Snd P E n m c T H Q := fun C φ S a w hst => by
  obtain ⟨φ', S', h1, h2, h3⟩ := hw C φ S w a hst.heap hst.tmps
  exact wp_mono (h C φ' S' a w ⟨h1, h2, hst.size, hst.defers⟩) (fun e a' w' hp => hp.from h3 .refl)

/-- Behind the first part. -/
def cutK (P : Program) (E : Env) (n m : Nat) (y : Code) (Q : Ex → Tmps → Heap → Prop) : Ex → Tmps → Heap → Prop := fun e T H => match e with
  | .normal => Snd P E n m y T H Q
  | e => Q e T H
theorem cutK_normal {y : Code} {Q : Ex → Tmps → Heap → Prop} {T : Tmps} {H : Heap} : cutK P E n m y Q .normal T H = Snd P E n m y T H Q := rfl
theorem cutK_ret {y : Code} {Q : Ex → Tmps → Heap → Prop} {T : Tmps} {H : Heap} : cutK P E n m y Q .ret T H = Q .ret T H := rfl
theorem cutK_exit {y : Code} {Q : Ex → Tmps → Heap → Prop} {T : Tmps} {H : Heap} {i : Nat} : cutK P E n m y Q (.exit i) T H = Q (.exit i) T H := rfl

theorem Snd.seq (hE : EOk P E) (hmix : P.follows .mixedOrders = true) {x y : Code} {T : Tmps} {H : Heap} {Q : Ex → Tmps → Heap → Prop} (h : awp P E n m x T H (cutK P E n m y Q)) : Snd P E n m (.seq x y) T H Q := fun C φ S a w hst => by
  refine wp_seq (wp_mono (awp_sound hE hmix x hst h) ?_)
  rintro e a1 w1 ⟨e', T', H', φ', S', hq, rfl, hst', hs', hk'⟩
  cases e' with
  | normal => exact wp_mono (hq C φ' S' a1 w1 hst') (fun e a2 w2 hp => hp.from hs' hk')
  | exit id => exact ⟨.exit id, T', H', φ', S', hq, rfl, hst', hs', hk'⟩
  | ret => exact ⟨.ret, T', H', φ', S', hq, rfl, hst', hs', hk'⟩

/-- The first k parts; the rest. -/
def hdN : Nat → Code → Code
  | k + 1, .seq x y => .seq x (hdN k y)
  | _, _ => .skip
def tlN : Nat → Code → Code
  | k + 1, .seq _ y => tlN k y
  | _, c => c

theorem Snd.upto (hE : EOk P E) (hmix : P.follows .mixedOrders = true) {Q : Ex → Tmps → Heap → Prop} : ∀ (k : Nat) (c : Code) {T : Tmps} {H : Heap}, awp P E n m (hdN k c) T H (cutK P E n m (tlN k c) Q) → Snd P E n m c T H Q
  | 0, c, T, H, h => h
  | k + 1, c, T, H, h => by
    cases c with
    | seq x y =>
      refine Snd.seq hE hmix (awp_mono x (fun e T' H' he => ?_) h)
      cases e with
      | normal => exact Snd.upto hE hmix k y he
      | exit i => exact he
      | ret => exact he
    | _ => exact h

theorem RSpec.of_snd {f : Nat} {fn : Func} {body : Code} {vs : List V} {H0 H1 : Heap} {r : V} (hE : EOk P E) (hmix : P.follows .mixedOrders = true) (hf : P.funcs[f]? = some fn) (hb : fn.body = some body) (hcall : Callable P f) (hn : vs.length ≤ fn.ntmps)
    (h : Snd P E fn.ntmps H0.length body (initV 0 vs) H0 (FinR E H0.length fn.results.toList r H1)) : RSpec P f vs H0 r H1 := by
  refine ⟨hcall, fun C φ S w cs hH hv => ?_⟩
  have hlen := hv.len
  have hsz : (cs.toArray ++ Array.replicate (fn.ntmps - cs.toArray.size) undef).size = fn.ntmps := by simp; omega
  have hst : Stands C fn.ntmps (initV 0 vs) H0 φ S { tmps := cs.toArray ++ Array.replicate (fn.ntmps - cs.toArray.size) undef, defers := [] } w := by
    refine ⟨hH, fun t => ?_, hsz, rfl⟩
    rw [initV_get]
    simp only [Nat.zero_le, if_true, Nat.sub_zero]
    by_cases ht : t < vs.length
    · have hc : t < cs.length := by omega
      rw [List.getElem?_eq_getElem ht]
      have : (cs.toArray ++ Array.replicate (fn.ntmps - cs.toArray.size) undef).getD t undef = cs[t] := by
        simp [Array.getElem?_append, hc]
      rw [this]
      exact hv.at_ t _ _ (List.getElem?_eq_getElem ht) (List.getElem?_eq_getElem hc)
    · rw [List.getElem?_eq_none (by omega)]
      exact .d _ _ (.undef _)
  refine calls_of_wp hf hb (wp_mono (h _ _ _ _ _ hst) ?_)
  rintro e a' w' ⟨e', T', H', φ', S', hq, rfl, hst', hs', hk'⟩
  have fin : (∃ v, resOf E T' H' fn.results.toList = some v ∧ Weak H0.length [(0, v)] H' [(0, r)] H1) → a'.defers = [] ∧ ∃ v, (results fn a'.tmps).run P w' = .ok v w' ∧
      ∃ c φ1 S1, Ending.returned v = .returned c ∧ RV φ1 S1 H1 w' r c ∧ HRel C φ1 S1 H1 w' ∧ Step φ S H0 w φ1 S1 H1 w' ∧ Kp C w w' := by
    rintro ⟨v, hv, hx⟩
    obtain ⟨c, hrun, hc⟩ := resOf_sound hE hst' hv
    obtain ⟨φ1, S1, g1, g2, g3⟩ := hx _ φ' S' w' { tmps := #[c], defers := [] } hst'.heap (fun t => by
      simp only [tget]
      split
      · rename_i e; subst e; exact hc
      · exact .d _ _ (.undef _))
    have hall := hs'.trans g3
    refine ⟨hst'.defers, c, hrun, c, φ1, S1, rfl, ?_, g1, ⟨hall.keepS, fun id hu => hall.keepH id (Classical.byContradiction fun hn => hu (hget_length H0 id (by omega))) hu⟩, hk'⟩
    have := g2 0
    simpa [tget] using this
  cases e' with
  | normal => exact fin hq
  | ret => exact fin hq
  | exit id => exact hq.elim
end

end Go.Proofs.Ythpapgbpmkgfeaa.AM
