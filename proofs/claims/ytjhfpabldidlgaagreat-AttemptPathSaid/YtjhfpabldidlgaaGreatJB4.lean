/- The texts Am33, Am34, Ac, Ad, Ae, Af, An, Gb, Gc, Gd, Ge, Gf, Ft, Gg, Gj, Gl, As, Fu, Ah, Aj, At, Ai, Ag, Ak, Al, Au, Av, Aw, joined. -/
import Derived.Test.YtjhfpabldidlgaaGreatJB3

/- A heap by other numbers: ahead of a call; calls by reference that leave all as it was. -/
set_option linter.all false
namespace Go.Proofs.YtjhfpabldidlgaaGreat.AM
open Go Go.RowKit

section
variable {P : Program} {E : Env} {n m : Nat} {φ φ' : Nat → Option Loc} {S S' : Nat → Prop} {H H' : Heap} {w : World} {T T' : Tmps} {ρ : Nat → Nat}

/-- A CALL's HEAP BY OTHER NUMBERS. -/
theorem RSpec.pre {f : Nat} {vs vs' : List V} {H1 : Heap} {r : V} (h : RSpec P f vs' H' r H1) (hl : vs'.length = vs.length) (hW : Weak H.length (initV 0 vs) H (initV 0 vs') H') : RSpec P f vs H r H1 := by
  refine ⟨h.1, fun C φ S w cs hH hv => ?_⟩
  have hlen := hv.len
  obtain ⟨φ1, S1, g1, g2, g3⟩ := hW C φ S w { tmps := cs.toArray, defers := [] } hH (fun t => by
    rw [initV_get]
    simp only [Nat.zero_le, if_true, Nat.sub_zero]
    cases hx : vs[t]? with
    | none => exact .d _ _ (.undef _)
    | some v =>
      have ht : t < cs.length := by have := (List.getElem?_eq_some_iff.1 hx).1; omega
      have := hv.at_ t v cs[t] hx (List.getElem?_eq_getElem ht)
      simpa [Array.getD_eq_getD_getElem?, ht] using this)
  have hv1 : RVs φ1 S1 H' w vs' cs := ⟨by omega, fun i v c hi hc => by
    have := g2 i
    rw [initV_get] at this
    simp only [Nat.zero_le, if_true, Nat.sub_zero, hi] at this
    have hlt := (List.getElem?_eq_some_iff.1 hc).1
    have e : cs[i] = c := (List.getElem?_eq_some_iff.1 hc).2
    simpa [Array.getD_eq_getD_getElem?, hlt, e] using this⟩
  refine (h.2 C φ1 S1 w cs g1 hv1).mono ?_
  rintro e w' ⟨c, φ2, S2, rfl, h1, h2, h3, h4⟩
  have ht := g3.trans (h3.toM (m := H.length) h4.size)
  refine ⟨c, φ2, S2, rfl, h1, h2, ⟨ht.keepS, fun id hu => ht.keepH id (Classical.byContradiction fun hn => hu (hget_length H id (by omega))) hu⟩, h4⟩

theorem RSpec.congr {f : Nat} {vs : List V} {r : V} {H1 H2 : Heap} (h : RSpec P f vs H r H1) (hH : ∀ id, hget H2 id = hget H1 id) : RSpec P f vs H r H2 := by
  refine ⟨h.1, fun C φ S w cs hH0 hv => (h.2 C φ S w cs hH0 hv).mono ?_⟩
  rintro e w' ⟨c, φ', S', rfl, h1, h2, h3, h4⟩
  exact ⟨c, φ', S', rfl, h1.congr hH, h2.congr hH, ⟨h3.keepS, fun id hu => by rw [hH]; exact h3.keepH id hu⟩, h4⟩

/-- A call by reference that leaves all as it was, wherever it comes. -/
theorem dcall_ref0 {f : Nat} {vs vs0 : List V} {H0 : Heap} {r r0 : V} {nid : Nat} {K : V → Blk → Prop} (l : List Nat) (h : RSpec P f vs0 H0 r0 H0) (hvs : ∀ k, renL (frρ l k) vs0 = vs) (hr : ∀ k, r0.ren (frρ l k) = r) (hnd : l.Nodup) (hlen : l.length = H0.length)
    (hB : ∀ j, j < H0.length → hget H0 j ≠ .unborn ∧ hget H (frρ l 0 j) ≠ .unborn ∧ ∀ k, hget H (frρ l 0 j) = (hget H0 j).ren (frρ l k))
    (hK : K r .dead) : dcall P f vs H nid K := by
  refine ⟨_, _, fun H' hm hu => ?_, hK⟩
  have hl0 : ∀ j k, j < H0.length → frρ l k j = frρ l 0 j := fun j k hj => by rw [frρ_lt (by omega), frρ_lt (by omega)]
  have hB' : ∀ j, j < H0.length → hget H' (frρ l 0 j) = hget H (frρ l 0 j) := fun j hj => (hm _).resolve_left (hB j hj).2.1
  have hlt : ∀ i ∈ l, i < H'.length := fun i hi => by
    obtain ⟨j, hj, rfl⟩ := List.getElem_of_mem hi
    refine Classical.byContradiction fun hn => ?_
    have h1 := hB' j (by omega)
    rw [frρ_lt hj, hget_length H' _ (by omega)] at h1
    have := (hB j (by omega)).2.1
    rw [frρ_lt hj] at this
    exact this h1.symm
  have hfr := RSpec.frame (H := H') h l hnd hlen (Nat.le_refl _) hlt (fun j hj => ⟨(hB j hj).1, by rw [hl0 j _ hj, hB' j hj]; exact (hB j hj).2.2 _⟩)
  rw [hvs, hr] at hfr
  refine (hfr.congr (H2 := H') (fun id => ?_)).bury hu
  unfold frameH
  have hd : H0.drop l.length = [] := List.drop_eq_nil_of_le (by omega)
  rw [hd, List.map_nil, List.append_nil]
  by_cases hi : id ∈ l
  · obtain ⟨j, hj, rfl⟩ := List.getElem_of_mem hi
    rw [putL_at l _ H' _ j ((H0[j]'(by omega)).ren (frρ l H'.length)) hnd (List.getElem?_eq_getElem hj) (by simp [show j < H0.length by omega])]
    have h1 := (hB j (by omega)).2.2 H'.length
    have h2 := hB' j (by omega)
    rw [frρ_lt hj] at h1 h2
    rw [h2, h1, hget_getElem H0 j, List.getElem?_eq_getElem (show j < H0.length by omega)]; rfl
  · rw [putL_not l _ H' id hi]

end
end Go.Proofs.YtjhfpabldidlgaaGreat.AM

/- What lies in blocks of the call's own, and is written no more, as data. -/
set_option linter.all false
namespace Go.Proofs.YtjhfpabldidlgaaGreat.AM
open Go Go.RowKit

/-- A slice of a block that is written no more, as data. -/
def sealF (H : Heap) (ids : List Nat) : V → V
  | .own id off len => if id ∈ ids then (match hget H id with | .dat _ _ els => .d (.vec ((els.drop off).take len)) | _ => .own id off len) else .own id off len
  | .nils => .d (.vec [])
  | .ptr id i j => if id ∈ ids then (match xport H 40 (.ptr id i j) with | some d => if tids H 40 (.ptr id i j) = [id] then .d d else .ptr id i j | none => .ptr id i j) else .ptr id i j
  | v => v

def sealB (H : Heap) (ids : List Nat) : Blk → Blk
  | .box fz cells => .box fz (cells.map (sealF H ids))
  | b => b

def sealH (H : Heap) (ids : List Nat) : Heap := (freeze H ids).map (sealB H ids)

theorem hget_map (f : Blk → Blk) (hf : f .unborn = .unborn) : ∀ (H : Heap) (i : Nat), hget (H.map f) i = f (hget H i)
  | [], i => by simp [hget, hf]
  | b :: r, 0 => by simp [hget]
  | b :: r, i + 1 => by simpa [hget] using hget_map f hf r i

section
variable {m : Nat} {φ : Nat → Option Loc} {S S1 : Nat → Prop} {H H' : Heap} {C : Ctx} {w : World} {T T' : Tmps}

theorem sealF_rel (ids : List Nat) (hH : HRel C φ S H w) (hS : ∀ B, S B → S1 B) (ht : ∀ id ∈ ids, ∀ L, φ id = some L → S1 L.blk) (hst : Step φ S H w φ S1 H' w) {v : V} {c : Value} (h : RV φ S H w v c) : RV φ S1 H' w (sealF H ids v) c := by
  unfold sealF
  split
  · rename_i id off len
    split
    · rename_i hid
      split
      · rename_i fz sz els hg
        have hx : xport H 40 (.own id off len) = some (.vec ((els.drop off).take len)) := by simp [xport, hg]
        exact .d _ _ (xport_rel hH hS 40 _ c _ (fun i hi L hL => ht i (by simp [tids] at hi; rw [hi]; exact hid) L hL) h hx)
      · exact h.step hst
    · exact h.step hst
  · have hx : xport H 40 (.nils) = some (.vec []) := by simp [xport]
    exact .d _ _ (xport_rel hH hS 40 _ c _ (fun i hi L hL => by simp [tids] at hi) h hx)
  · rename_i id i j
    split
    · rename_i hid
      split
      · rename_i d hx
        split
        · rename_i htid
          exact .d _ _ (xport_rel hH hS 40 _ c _ (fun k hk L hL => ht k (by rw [htid] at hk; simp at hk; rw [hk]; exact hid) L hL) h hx)
        · exact h.step hst
      · exact h.step hst
    · exact h.step hst
  · exact h.step hst

theorem Weak.sealed (ids : List Nat) (hT : ∀ q ∈ T', q.2 = sealF H ids (tget T q.1)) : Weak m T H T' (sealH H ids) := by
  intro C φ S w a hH hT0
  obtain ⟨S1, p1, p2, p3⟩ := HRel.freeze hH ids hH
  have hg : ∀ i, hget (sealH H ids) i = sealB H ids (hget (freeze H ids) i) := fun i => hget_map _ rfl _ i
  have hst2 : Step φ S1 (AM.freeze H ids) w φ S1 (sealH H ids) w := ⟨.refl _ _, fun i hi => by
    rw [hg]
    cases hb : hget (AM.freeze H ids) i with
    | unborn => exact absurd hb hi
    | dead => exact .inl rfl
    | box fz cells => exact .inr ⟨by simp [sealB, SameShape], rfl⟩
    | dat fz sz els => exact .inr ⟨by simp [sealB, SameShape], rfl⟩⟩
  have hst := p2.trans hst2 (Nat.le_refl _) (Nat.le_refl _)
  have hS : ∀ B, S B → S1 B := fun B hB => (p2.keepS B hB (hH.low B hB)).1
  have key : ∀ v c, RV φ S H w v c → RV φ S1 (sealH H ids) w (sealF H ids v) c := fun v c h => sealF_rel ids hH hS p3 hst h
  have hfz : ∀ i fz cells, hget (AM.freeze H ids) i = .box fz cells → ∃ fz0, hget H i = .box fz0 cells := by
    intro i fz cells
    have : ∀ (l : List Nat) (H : Heap), hget (AM.freeze H l) i = .box fz cells → ∃ fz0, hget H i = .box fz0 cells := by
      intro l
      induction l with
      | nil => intro H h; exact ⟨fz, h⟩
      | cons id r ih =>
        intro H h
        obtain ⟨fz0, h0⟩ := ih _ h
        rw [hget_hput] at h0
        split at h0
        · rename_i e
          subst e
          cases hb : hget H i <;> rw [hb] at h0 <;> simp [Blk.ice] at h0
          exact ⟨_, by rw [h0.2]⟩
        · exact ⟨fz0, h0⟩
    exact this ids H
  refine ⟨φ, S1, ⟨p1.n0, p1.own, p1.vis, p1.inj, fun i => ?_, p1.low⟩, fun t => ?_, hst.toM (Nat.le_refl _)⟩
  · rw [hg]
    have hb := p1.blk i
    cases hgi : hget (AM.freeze H ids) i with
    | unborn => rw [hgi] at hb; exact hb
    | dead => rw [hgi] at hb; exact hb
    | box fz cells =>
      rw [hgi] at hb
      obtain ⟨fz0, h0⟩ := hfz i fz cells hgi
      have hb0 := hH.blk i
      rw [h0] at hb0
      obtain ⟨L, cs, t, h1, h2, h3, h4, h5, h6⟩ := hb
      obtain ⟨L', cs', t', k1, k2, k3, k4, k5, k6⟩ := hb0
      rw [h1] at k1
      cases k1
      have hcs : cs = cs' := by
        have := h3.heap.symm.trans k3.heap
        simp at this
        exact this.1
      subst hcs
      refine ⟨L, cs, t, h1, h2, h3, by simpa using h4, fun k v c hk hc => ?_, h6⟩
      simp only [List.getElem?_map, Option.map_eq_some_iff] at hk
      obtain ⟨v0, hv0, rfl⟩ := hk
      exact key v0 c (k5 k v0 c hv0 hc)
    | dat fz sz els =>
      rw [hgi] at hb
      rcases hb with h | ⟨L, cs, t, h1, h2, h3, h4, h5, h6⟩
      · exact .inl h
      · exact .inr ⟨L, cs, t, h1, h2, h3, h4, h5, h6⟩
  · rcases tget_mem (T' := T') (t := t) with h | ⟨q, h1, rfl, h3⟩
    · rw [h]; exact .d _ _ (.undef _)
    · rw [h3, hT q h1]; exact key _ _ (hT0 _)

theorem Weak.trans' {m : Nat} {T1 T2 T3 : Tmps} {H1 H2 H3 : Heap} (h : Weak m T1 H1 T2 H2) (h' : Weak m T2 H2 T3 H3) : Weak m T1 H1 T3 H3 := by
  intro C φ S w a hH hT
  obtain ⟨φ1, S1, a1, a2, a3⟩ := h C φ S w a hH hT
  obtain ⟨φ2, S2, b1, b2, b3⟩ := h' C φ1 S1 w a a1 a2
  exact ⟨φ2, S2, b1, b2, a3.trans b3⟩

/-- CLOSED: what lies in blocks of the call's own is data now, and all but the first n blocks are dropped. -/
theorem Weak.close (ids : List Nat) (n : Nat) (hmn : m ≤ n) (hH : (sealH H ids).take n = H') (hT : ∀ q ∈ T', q.2 = sealF H ids (tget T q.1) ∧ V.lower n q.2 = true) (hB : ∀ b ∈ H', Blk.lower n b = true) : Weak m T H T' H' := by
  refine Weak.trans' (Weak.sealed (T' := T'.map fun q => (q.1, sealF H ids (tget T q.1))) ids (fun q hq => ?_)) (Weak.trimsM n hmn hH (fun q hq => ⟨?_, (hT q hq).2⟩) hB)
  · obtain ⟨q0, _, rfl⟩ := List.mem_map.1 hq
    rfl
  · rw [(hT q hq).1]
    clear hT
    induction T' with
    | nil => simp at hq
    | cons p r ih =>
      simp only [List.map_cons, tget]
      by_cases e : q.1 = p.1
      · rw [if_pos e, e]
      · rw [if_neg e]
        rcases List.mem_cons.1 hq with rfl | hq
        · exact absurd rfl e
        · exact ih hq
end

section
variable {P : Program} {E : Env}
/-- A function's contract, cut in parts. -/
theorem CSpec.of_snd {f : Nat} {fn : Func} {body : Code} {args : List D} {r : D} (hE : EOk P E) (hmix : P.follows .mixedOrders = true) (hf : P.funcs[f]? = some fn) (hb : fn.body = some body) (hcall : Callable P f) (hn : args.length ≤ fn.ntmps)
    (h : Snd P E fn.ntmps 0 body (initT 0 args) [] (Fin E fn.results.toList r)) : CSpec P f args r := by
  refine ⟨hcall, fun S0 w cs hS0 hlen hrel => ?_⟩
  have hsz : (cs.toArray ++ Array.replicate (fn.ntmps - cs.toArray.size) undef).size = fn.ntmps := by simp; omega
  have hst : Stands ⟨w.heap.size, fun _ => False, S0⟩ fn.ntmps (initT 0 args) [] (fun _ => none) S0 { tmps := cs.toArray ++ Array.replicate (fn.ntmps - cs.toArray.size) undef, defers := [] } w := by
    refine ⟨⟨Nat.le_refl _, (fun id L h => by cases h), (fun B hB => .inl hB), (fun i j L L' h => by cases h), (fun id => rfl), hS0⟩, fun t => ?_, hsz, rfl⟩
    rw [initT_get]
    simp only [Nat.zero_le, if_true, Nat.sub_zero]
    by_cases ht : t < args.length
    · have hc : t < cs.length := by omega
      rw [List.getElem?_eq_getElem ht]
      have : (cs.toArray ++ Array.replicate (fn.ntmps - cs.toArray.size) undef).getD t undef = cs[t] := by
        simp [Array.getElem?_append, hc]
      rw [this]
      exact .d _ _ (hrel t _ _ (List.getElem?_eq_getElem ht) (List.getElem?_eq_getElem hc))
    · rw [List.getElem?_eq_none (by omega)]
      exact .d _ _ (.undef _)
  refine calls_of_wp hf hb (wp_mono (h _ _ _ _ _ hst) ?_)
  rintro e a' w' ⟨e', T', H', φ', S', hq, rfl, hst', hs', hk'⟩
  have fin : (∃ v, resOf E T' H' fn.results.toList = some v ∧ xport H' 40 v = some r) → a'.defers = [] ∧ ∃ v, (results fn a'.tmps).run P w' = .ok v w' ∧ ∃ c S', Ending.returned v = .returned c ∧ RD S' w' r c ∧ (∀ B, S' B → (S0 B ∨ w.heap.size ≤ B) ∧ B < w'.heap.size) ∧ Kp ⟨w.heap.size, fun _ => False, S0⟩ w w' := by
    rintro ⟨v, hv, hx⟩
    obtain ⟨c, hrun, hc⟩ := resOf_sound hE hst' hv
    refine ⟨hst'.defers, c, hrun, c, fun B => (S0 B ∨ w.heap.size ≤ B) ∧ B < w'.heap.size, rfl, ?_, fun B hB => hB, hk'⟩
    have hv1 : ∀ B, S' B → S0 B ∨ w.heap.size ≤ B := fun B hB => by
      rcases hst'.heap.vis B hB with h | h | h
      · exact .inl h
      · exact h.elim
      · exact .inr h
    have hv2 : ∀ i L, φ' i = some L → S0 L.blk ∨ w.heap.size ≤ L.blk := fun i L hL => by
      rcases hst'.heap.own i L hL with h | h
      · exact h.elim
      · exact .inr h
    exact xport_rel hst'.heap (fun B hB => ⟨hv1 B hB, hst'.heap.low B hB⟩) 40 v c r (fun i _ L hL => ⟨hv2 i L hL, hst'.heap.lt hL⟩) hc hx
  cases e' with
  | normal => exact fin hq
  | ret => exact fin hq
  | exit id => exact hq.elim

end
end Go.Proofs.YtjhfpabldidlgaaGreat.AM

/- What was read; tables. -/
set_option linter.all false
set_option maxRecDepth 100000
set_option maxHeartbeats 4000000
namespace Go.Proofs.YtjhfpabldidlgaaGreat.AM
open Go Go.RowKit

theorem okEl_Rd (l : List Rd) : ∀ e ∈ l.map dRd, okEl 3 e = true := by
  intro e he
  obtain ⟨w, _, rfl⟩ := List.mem_map.1 he
  rfl
theorem c_IndexFunc_Rd (ns : List Rd) (f : Nat) (cap : List D) (p : Rd → Bool) (hl : ns.length ≤ 1000000) (hcap : cap.length ≤ 8) (hp : ∀ n ∈ ns, CSpec Tryz.prog f (dRd n :: cap) (.bool (p n))) : CSpec Tryz.prog 135 [.vec (ns.map dRd), .func (f, 0) cap] (.int .i64 (idxOf p ns)) := by
  refine CSpec.of_awp envOf_ok hmix Tryz.func135 rfl (fun args w => Tryz.call135 args w) (by simp [Tryz.f135]) ?_
  simp only [Tryz.f135]
  simp (maxSteps := 2000000) -implicitDefEqProofs only [zz, zE, evop, ev, ofVal, tget, tput, ok, V.isUndef, initT, Ch.on, sliceOf, lenOf, ↓reduceIte, reduceCtorEq, Nat.reduceLT, Int.reduceNeg]
  refine wloop_ind (σ := Nat) (fun i => ns.length - i) (fun i => [(8, .d (.int .i64 i)), (7, .d (.int .i64 ns.length)), (4, .d (.int .i64 0)), (0, .d (.vec (ns.map dRd))), (1, .d (.func (f, 0) cap))]) (fun _ => []) (fun i => i ≤ ns.length ∧ ∀ j < i, ∀ x, ns[j]? = some x → p x = false) 0 ⟨Nat.zero_le _, fun j hj => by omega⟩ (Weak.sub (by simp [tget])) ?_
  intro i ⟨hi, hb⟩
  rcases Nat.lt_or_ge i ns.length with h | h
  · have hx : ns[i]? = some ns[i] := List.getElem?_eq_getElem h
    have h' : ((i : Int) < (ns.length : Int)) := by omega
    simp (maxSteps := 2000000) -implicitDefEqProofs only [zz, zE, evop, ev, tget, tput, ok, V.isUndef, intBin, Ch.on, calleeOf, withArgs, told, D.cells, loadD, ↓reduceIte, reduceCtorEq, Nat.reduceLT, Nat.reduceEqDiff, Nat.reduceAdd, Nat.reduceLeDiff, Int.reduceNeg, nilTest, dRd, h', List.getElem?_map, hx, Option.map_some, Int.natCast_nonneg]
    refine acall_flat (ds := dRd ns[i] :: cap) (by simp only [xports, xport, xports_ds cap 39 (by omega), dRd]) (hp _ (List.getElem_mem h)) rfl ?_
    simp (maxSteps := 2000000) -implicitDefEqProofs only [zz, evop, ev, ofVal, tget, tput, ok, V.isUndef, intBin, Ch.on, told, xport, resOf, resV, resVs, ↓reduceIte, Nat.reduceLT, Nat.reduceEqDiff, Int.reduceNeg, nilTest]
    split
    · rename_i hpx
      simp [idxOf, findIdx_at h hb hpx]
    · rename_i hpx
      refine ⟨i + 1, ⟨h, fun j hj x hxj => ?_⟩, by omega, Weak.sub ?_⟩
      · rcases Nat.lt_or_ge j i with hji | hji
        · exact hb j hji x hxj
        · have : j = i := by omega
          subst this
          rw [hx] at hxj; cases hxj
          simpa using hpx
      · have hw : IntKind.i64.wrap ((i : Int) + 1) = (i : Int) + 1 := by rw [IntKind.wrap_i64]; omega
        simp [tget, hw]
  · have h' : ¬ ((i : Int) < (ns.length : Int)) := by omega
    simp (maxSteps := 2000000) -implicitDefEqProofs only [zz, evop, ev, ofVal, tget, tput, ok, V.isUndef, intBin, Ch.on, told, xport, resOf, resV, resVs, ↓reduceIte, Nat.reduceLT, Nat.reduceEqDiff, Int.reduceNeg, nilTest, h']
    have : ns.findIdx? p = none := by
      rw [List.findIdx?_eq_none_iff]
      intro x hx
      obtain ⟨j, hj, rfl⟩ := List.getElem_of_mem hx
      simpa using hb j (by omega) _ (List.getElem?_eq_getElem hj)
    simp [idxOf, this]
theorem c_IndexFunc_R (ns : List (Int × Int)) (f : Nat) (cap : List D) (p : (Int × Int) → Bool) (hl : ns.length ≤ 1000000) (hcap : cap.length ≤ 8) (hp : ∀ n ∈ ns, CSpec Tryz.prog f (dW n :: cap) (.bool (p n))) : CSpec Tryz.prog 137 [.vec (ns.map dW), .func (f, 0) cap] (.int .i64 (idxOf p ns)) := by
  refine CSpec.of_awp envOf_ok hmix Tryz.func137 rfl (fun args w => Tryz.call137 args w) (by simp [Tryz.f137]) ?_
  simp only [Tryz.f137]
  simp (maxSteps := 2000000) -implicitDefEqProofs only [zz, zE, evop, ev, ofVal, tget, tput, ok, V.isUndef, initT, Ch.on, sliceOf, lenOf, ↓reduceIte, reduceCtorEq, Nat.reduceLT, Int.reduceNeg]
  refine wloop_ind (σ := Nat) (fun i => ns.length - i) (fun i => [(8, .d (.int .i64 i)), (7, .d (.int .i64 ns.length)), (4, .d (.int .i64 0)), (0, .d (.vec (ns.map dW))), (1, .d (.func (f, 0) cap))]) (fun _ => []) (fun i => i ≤ ns.length ∧ ∀ j < i, ∀ x, ns[j]? = some x → p x = false) 0 ⟨Nat.zero_le _, fun j hj => by omega⟩ (Weak.sub (by simp [tget])) ?_
  intro i ⟨hi, hb⟩
  rcases Nat.lt_or_ge i ns.length with h | h
  · have hx : ns[i]? = some ns[i] := List.getElem?_eq_getElem h
    have h' : ((i : Int) < (ns.length : Int)) := by omega
    simp (maxSteps := 2000000) -implicitDefEqProofs only [zz, zE, evop, ev, tget, tput, ok, V.isUndef, intBin, Ch.on, calleeOf, withArgs, told, D.cells, loadD, ↓reduceIte, reduceCtorEq, Nat.reduceLT, Nat.reduceEqDiff, Nat.reduceAdd, Nat.reduceLeDiff, Int.reduceNeg, nilTest, dW, h', List.getElem?_map, hx, Option.map_some, Int.natCast_nonneg]
    refine acall_flat (ds := dW ns[i] :: cap) (by simp only [xports, xport, xports_ds cap 39 (by omega), dW]) (hp _ (List.getElem_mem h)) rfl ?_
    simp (maxSteps := 2000000) -implicitDefEqProofs only [zz, evop, ev, ofVal, tget, tput, ok, V.isUndef, intBin, Ch.on, told, xport, resOf, resV, resVs, ↓reduceIte, Nat.reduceLT, Nat.reduceEqDiff, Int.reduceNeg, nilTest]
    split
    · rename_i hpx
      simp [idxOf, findIdx_at h hb hpx]
    · rename_i hpx
      refine ⟨i + 1, ⟨h, fun j hj x hxj => ?_⟩, by omega, Weak.sub ?_⟩
      · rcases Nat.lt_or_ge j i with hji | hji
        · exact hb j hji x hxj
        · have : j = i := by omega
          subst this
          rw [hx] at hxj; cases hxj
          simpa using hpx
      · have hw : IntKind.i64.wrap ((i : Int) + 1) = (i : Int) + 1 := by rw [IntKind.wrap_i64]; omega
        simp [tget, hw]
  · have h' : ¬ ((i : Int) < (ns.length : Int)) := by omega
    simp (maxSteps := 2000000) -implicitDefEqProofs only [zz, evop, ev, ofVal, tget, tput, ok, V.isUndef, intBin, Ch.on, told, xport, resOf, resV, resVs, ↓reduceIte, Nat.reduceLT, Nat.reduceEqDiff, Int.reduceNeg, nilTest, h']
    have : ns.findIdx? p = none := by
      rw [List.findIdx?_eq_none_iff]
      intro x hx
      obtain ⟨j, hj, rfl⟩ := List.getElem_of_mem hx
      simpa using hb j (by omega) _ (List.getElem?_eq_getElem hj)
    simp [idxOf, this]
theorem c_ContainsFunc_R (ns : List (Int × Int)) (f : Nat) (cap : List D) (p : (Int × Int) → Bool) (hl : ns.length ≤ 1000000) (hcap : cap.length ≤ 8) (hp : ∀ n ∈ ns, CSpec Tryz.prog f (dW n :: cap) (.bool (p n))) : CSpec Tryz.prog 83 [.vec (ns.map dW), .func (f, 0) cap] (.bool (ns.any p)) := by
  refine CSpec.of_awp envOf_ok hmix Tryz.func83 rfl (fun args w => Tryz.call83 args w) (by simp [Tryz.f83]) ?_
  simp only [Tryz.f83]
  simp (maxSteps := 2000000) -implicitDefEqProofs only [zz, evop, ev, ofVal, tget, tput, ok, V.isUndef, initT, Ch.on, calleeOf, withArgs, ↓reduceIte, reduceCtorEq, Nat.reduceLT, Nat.reduceEqDiff]
  refine acall_flat (by first | rfl | (simp only [xports, xport, hget]; rfl)) (c_IndexFunc_R ns f cap p hl hcap hp) rfl ?_
  try simp (maxSteps := 2000000) -implicitDefEqProofs only [zz, evop, ev, ofVal, tget, tput, ok, V.isUndef, intBin, Ch.on, xport, resOf, resV, resVs, ↓reduceIte, Nat.reduceLT, nilTest]
  rw [idxOf_nonneg]
theorem o_Clone_Rd (els : List D) (h1 : els.length * 24 ≤ 140737488355328) (h2 : ∀ e ∈ els, okEl 3 e = true) : FSpec Tryz.prog 213 [.vec els] (.own 0 0 els.length) [.dat false 3 els] := by
  refine FSpec.of_awp envOf_ok hmix Tryz.func213 rfl (fun args w => Tryz.call213 args w) (by simp [Tryz.f213]) ?_
  simp only [Tryz.f213]
  simp (maxSteps := 2000000) -implicitDefEqProofs only [zz, zE, evop, ev, ofVal, tget, tput, ok, V.isUndef, initT, Ch.on, told, hget, hput, V.cells, V.isAgg, V.clo, clos, sliceOf, partsD, elems, resOf, resV, resVs, ↓reduceIte, reduceCtorEq, Nat.reduceLT, Nat.reduceEqDiff, Nat.reduceMul, Nat.reduceLeDiff, nilTest]
  refine ⟨fun h => ?_, ⟨h1, h2⟩, ?_⟩
  · subst h
    refine Weak.pick [7] (by simp) (by simp) rfl (fun q hq => ?_) (fun i hi => ?_)
    · obtain rfl : q = _ := by simpa using hq
      exact .nils 0 3 rfl
    · obtain rfl : i = 0 := by simpa using hi
      exact .virt 3 rfl rfl
  · refine Weak.pick [1] (by simp) (by simp) rfl (fun q hq => ?_) (fun i hi => ?_)
    · obtain rfl : q = _ := by simpa using hq
      exact .same _
    · obtain rfl : i = 0 := by simpa using hi
      exact .dat false 3 els rfl rfl

/-! ### tables -/
theorem c_somebody (w : Int) : CSpec Tryz.prog 92 [.int .i64 w] (.bool (decide (1 ≤ w) && decide (w ≤ 8))) := by
  refine CSpec.of_awp envOf_ok hmix Tryz.func92 rfl (fun args w => Tryz.call92 args w) (by simp [Tryz.f92]) ?_
  simp only [Tryz.f92]
  simp (maxSteps := 2000000) -implicitDefEqProofs only [zz, evop, ev, ofVal, tget, tput, ok, V.isUndef, intBin, guardOf, initT, Ch.on, xport, resOf, resV, resVs, ↓reduceIte, reduceCtorEq, Nat.reduceLT, Nat.reduceEqDiff, nilTest]
  split
  · rename_i h
    simp [h]
  · rename_i h
    simp [h]
theorem c_stripe_wrong (r : Int × Int) : CSpec Tryz.prog 112 [dW r] (.bool (wrongR r)) := by
  have e1 : wrongR r = (decide (r.1 < 0) || (decide (2147483647 < r.1) || (decide (r.2 ≠ 0) && !(decide (1 ≤ r.2) && decide (r.2 ≤ 8))))) := by
    unfold wrongR
    rw [Bool.eq_iff_iff]
    simp
    omega
  rw [e1]
  refine CSpec.of_awp envOf_ok hmix Tryz.func112 rfl (fun args w => Tryz.call112 args w) (by simp [Tryz.f112]) ?_
  simp only [Tryz.f112]
  simp (maxSteps := 2000000) -implicitDefEqProofs only [zz, zE, evop, ev, ofVal, tget, tput, ok, V.isUndef, intBin, guardOf, initT, Ch.on, calleeOf, withArgs, xport, hget, hput, V.cells, structAt, Blk.width, resOf, resV, resVs, ↓reduceIte, reduceCtorEq, Nat.reduceLT, Nat.reduceEqDiff, Nat.reduceAdd, nilTest, dW]
  by_cases h1 : r.1 < 0
  · have d1 := decide_eq_true h1
    simp (maxSteps := 2000000) -implicitDefEqProofs only [zz, ↓reduceIte, h1, Bool.true_or]
  have d1 := decide_eq_false h1
  simp (maxSteps := 2000000) -implicitDefEqProofs only [zz, ↓reduceIte, h1, Bool.false_or]
  by_cases h2 : r.1 > 2147483647
  · have d2 : decide (2147483647 < r.1) = true := decide_eq_true h2
    simp (maxSteps := 2000000) -implicitDefEqProofs only [zz, ↓reduceIte, h2, Bool.true_or]
  have d2 : decide (2147483647 < r.1) = false := decide_eq_false h2
  simp (maxSteps := 2000000) -implicitDefEqProofs only [zz, ↓reduceIte, h2, Bool.false_or]
  by_cases h3 : r.2 = 0
  · have d3 : (r.2 != 0) = false := by simpa using h3
    have d4 : decide (r.2 ≠ 0) = false := by simpa using h3
    simp (maxSteps := 2000000) -implicitDefEqProofs only [zz, ↓reduceIte, d3, d4]
  have d3 : (r.2 != 0) = true := by simpa using h3
  have d4 : decide (r.2 ≠ 0) = true := by simpa using h3
  simp (maxSteps := 2000000) -implicitDefEqProofs only [zz, ↓reduceIte, d3, d4]
  refine acall_flat (by first | rfl | (simp only [xports, xport, hget]; rfl)) (c_somebody r.2) rfl ?_
  try simp (maxSteps := 2000000) -implicitDefEqProofs only [zz, evop, ev, tget, tput, ok, V.isUndef, guardOf, Ch.on, xport, resOf, resV, resVs, ↓reduceIte, Nat.reduceLT, Nat.reduceEqDiff]
theorem c_stripe_Right (r : List (Int × Int)) : CSpec Tryz.prog 63 [.vec (r.map dW)] (.bool (tableR r)) := by
  refine CSpec.of_awp envOf_ok hmix Tryz.func63 rfl (fun args w => Tryz.call63 args w) (by simp [Tryz.f63]) ?_
  simp only [Tryz.f63]
  simp (maxSteps := 2000000) -implicitDefEqProofs only [zz, zE, evop, ev, ofVal, tget, tput, ok, V.isUndef, intBin, guardOf, initT, Ch.on, calleeOf, withArgs, xport, sliceOf, lenOf, resOf, resV, resVs, ↓reduceIte, reduceCtorEq, Nat.reduceLT, Nat.reduceEqDiff, nilTest]
  unfold tableR
  split
  · rename_i h1
    split
    · rename_i h2
      refine acall_flat (by first | rfl | (simp only [xports, xport, hget]; rfl)) (c_ContainsFunc_R r _ [] wrongR (by omega) (by decide) (fun w _ => c_stripe_wrong w)) rfl ?_
      try simp (maxSteps := 2000000) -implicitDefEqProofs only [zz, evop, ev, tget, tput, ok, V.isUndef, guardOf, Ch.on, xport, resOf, resV, resVs, ↓reduceIte, Nat.reduceLT, Nat.reduceEqDiff]
      rw [decide_eq_true (by omega : 1 ≤ r.length), decide_eq_true (by omega : r.length ≤ 16)]; simp
    · rename_i h2
      rw [decide_eq_false (by omega : ¬ r.length ≤ 16)]; simp
  · rename_i h1
    rw [decide_eq_false (by omega : ¬ 1 ≤ r.length)]; simp
end Go.Proofs.YtjhfpabldidlgaaGreat.AM

/- What was read: plain laws. -/
set_option linter.all false
set_option maxRecDepth 100000
set_option maxHeartbeats 4000000
namespace Go.Proofs.YtjhfpabldidlgaaGreat.AM
open Go Go.RowKit

def placeR (l : List Rd) (c : Int) : Int := idxOf (fun r => r.1 == c) l

theorem placeR_cases (l : List Rd) (c : Int) : (placeR l c = -1 ∧ l.find? (fun x => x.1 == c) = none) ∨ ∃ (j : Nat) (x : Rd), placeR l c = j ∧ l[j]? = some x ∧ x.1 = c ∧ l.find? (fun x => x.1 == c) = some x ∧ ∀ k < j, ∀ y, l[k]? = some y → y.1 ≠ c := by
  unfold placeR idxOf
  cases h : l.findIdx? (fun r => r.1 == c) with
  | none =>
    left
    refine ⟨rfl, ?_⟩
    rw [List.findIdx?_eq_none_iff] at h
    rw [List.find?_eq_none]
    intro x hx
    have := h x hx
    simpa using this
  | some j =>
    right
    rw [List.findIdx?_eq_some_iff_getElem] at h
    obtain ⟨h1, h2, h3⟩ := h
    refine ⟨j, l[j], rfl, List.getElem?_eq_getElem h1, by simpa using h2, ?_, fun k hk y hy => ?_⟩
    · rw [List.find?_eq_some_iff_append]
      refine ⟨h2, l.take j, l.drop (j + 1), ?_, fun a ha => ?_⟩
      · rw [← List.drop_eq_getElem_cons h1, List.take_append_drop]
      · obtain ⟨k, hk, rfl⟩ := List.getElem_of_mem ha
        simp only [List.length_take] at hk
        rw [List.getElem_take]
        have := h3 k (by omega)
        simpa using this
    · have := h3 k hk
      have e := (List.getElem?_eq_some_iff.1 hy).2
      rw [e] at this
      simpa using this

theorem placeR_self {l : List Rd} {i : Nat} {x : Rd} (hn : (l.map fun r => r.1).Nodup) (hx : l[i]? = some x) : placeR l x.1 = i := by
  rcases placeR_cases l x.1 with ⟨h1, h2⟩ | ⟨j, y, h1, h2, h3, _, _⟩
  · rw [List.find?_eq_none] at h2
    have := h2 x (List.mem_of_getElem? hx)
    simp at this
  · rw [h1]
    have e1 : (l.map fun r => r.1)[i]? = some x.1 := by rw [List.getElem?_map, hx]; rfl
    have e2 : (l.map fun r => r.1)[j]? = some x.1 := by rw [List.getElem?_map, h2]; simp [h3]
    obtain ⟨q1, q2⟩ := List.getElem?_eq_some_iff.1 e1
    obtain ⟨q3, q4⟩ := List.getElem?_eq_some_iff.1 e2
    have := (List.getElem_inj hn).1 (q4.trans q2.symm)
    omega

theorem readsR_of {l : List Rd} (h : ∀ (j : Nat) (x : Rd), l[j]? = some x → rightRd x = true ∧ placeR l x.1 = j) (hl : l.length ≤ 24) : readsR l = true := by
  refine readsR_parts.2 ⟨fun x hx => ?_, ?_, hl⟩
  · obtain ⟨j, hj, rfl⟩ := List.getElem_of_mem hx
    exact (h j _ (List.getElem?_eq_getElem hj)).1
  · rw [List.Nodup, List.pairwise_iff_getElem]
    intro i j hi hj hij e
    have hi' : i < l.length := by simpa using hi
    have hj' : j < l.length := by simpa using hj
    simp only [List.getElem_map] at e
    have h1 := (h i _ (List.getElem?_eq_getElem hi')).2
    have h2 := (h j _ (List.getElem?_eq_getElem hj')).2
    rw [e, h2] at h1
    omega

theorem readsR_not {l : List Rd} {i : Nat} {x : Rd} (hx : l[i]? = some x) (h : rightRd x = false ∨ placeR l x.1 ≠ i) : readsR l = false := by
  cases hr : readsR l with
  | false => rfl
  | true =>
    obtain ⟨h1, h2, _⟩ := readsR_parts.1 hr
    rcases h with h | h
    · rw [h1 x (List.mem_of_getElem? hx)] at h; cases h
    · exact absurd (placeR_self h2 hx) h

/-- What is found. -/
def findR (l : List Rd) (c : Int) : Rd × Bool := if readsR l = true then (match l.find? (fun x => x.1 == c) with | some x => (x, true) | none => ((0, 0, 0), false)) else ((0, 0, 0), false)

theorem readsR_one {r : Rd} (h : rightRd r = true) : readsR [r] = true := readsR_parts.2 ⟨by simpa using h, by simp, by simp⟩
end Go.Proofs.YtjhfpabldidlgaaGreat.AM

/- What was read: the code's own. -/
set_option linter.all false
set_option maxRecDepth 100000
set_option maxHeartbeats 4000000
namespace Go.Proofs.YtjhfpabldidlgaaGreat.AM
open Go Go.RowKit

theorem c_place1 (r : Rd) (c : Int) : CSpec Tryz.prog 136 [dRd r, .imm (.agg [.int .i64 c]) 0] (.bool (r.1 == c)) := by
  refine CSpec.of_awp envOf_ok hmix Tryz.func136 rfl (fun args w => Tryz.call136 args w) (by simp [Tryz.f136]) ?_
  simp only [Tryz.f136]
  simp (maxSteps := 2000000) -implicitDefEqProofs only [zz, zE, evop, ev, ofVal, tget, tput, ok, V.isUndef, intBin, initT, Ch.on, xport, hget, hput, V.cells, D.cells, loadD, structAt, Blk.width, resOf, resV, resVs, ↓reduceIte, reduceCtorEq, Nat.reduceLT, Nat.reduceEqDiff, Nat.reduceAdd, nilTest, dRd]

theorem c_place (l : List Rd) (c : Int) (hl : l.length ≤ 1000000) : CSpec Tryz.prog 81 [.vec (l.map dRd), .int .i64 c] (.int .i64 (placeR l c)) := by
  refine CSpec.of_awp envOf_ok hmix Tryz.func81 rfl (fun args w => Tryz.call81 args w) (by simp [Tryz.f81]) ?_
  simp only [Tryz.f81]
  simp (maxSteps := 2000000) -implicitDefEqProofs only [zz, zE, evop, ev, ofVal, tget, tput, ok, V.isUndef, initT, Ch.on, calleeOf, withArgs, hput, V.cells, ↓reduceIte, reduceCtorEq, Nat.reduceLT, Nat.reduceEqDiff]
  refine acall_flat (by first | rfl | (simp only [xports, xport, hget]; rfl)) (c_IndexFunc_Rd l _ [.imm (.agg [.int .i64 c]) 0] (fun r => r.1 == c) hl (by simp) (fun n _ => c_place1 n c)) rfl ?_
  try simp (maxSteps := 2000000) -implicitDefEqProofs only [zz, evop, ev, tget, tput, ok, V.isUndef, Ch.on, xport, resOf, resV, resVs, ↓reduceIte, Nat.reduceLT]
  rfl

theorem c_reads_Right (l : List Rd) (hl : l.length ≤ 1000000) : CSpec Tryz.prog 26 [.vec (l.map dRd)] (.bool (readsR l)) := by
  refine CSpec.of_awp envOf_ok hmix Tryz.func26 rfl (fun args w => Tryz.call26 args w) (by simp [Tryz.f26]) ?_
  simp only [Tryz.f26]
  simp (maxSteps := 2000000) -implicitDefEqProofs only [zz, zE, evop, ev, ofVal, tget, tput, ok, V.isUndef, initT, Ch.on, sliceOf, lenOf, ↓reduceIte, reduceCtorEq, Nat.reduceLT]
  refine wloop_count l.length (fun i => [(7, .d (.int .i64 i)), (6, .d (.int .i64 l.length)), (5, .d (.vec (l.map dRd))), (0, .d (.vec (l.map dRd)))]) (fun _ => []) (fun i => ∀ (j : Nat) (x : Rd), j < i → l[j]? = some x → rightRd x = true ∧ placeR l x.1 = j) (fun j x hj => by omega) (Weak.sub (by simp [tget])) (fun i hi hI => ?_) (fun hI => ?_)
  · have hx : l[i]? = some l[i] := List.getElem?_eq_getElem hi
    have h' : ((i : Int) < (l.length : Int)) := by omega
    have hw : IntKind.i64.wrap ((i : Int) + 1) = ((i + 1 : Nat) : Int) := by rw [wrap_in (by omega)]; omega
    have hnot := fun h => readsR_not hx h
    simp (maxSteps := 2000000) -implicitDefEqProofs only [zz, zE, evop, ev, ofVal, tget, tput, ok, V.isUndef, intBin, guardOf, Ch.on, calleeOf, withArgs, told, xport, hget, hput, V.cells, D.cells, V.one, loadD, structAt, Blk.width, splice, resOf, resV, resVs, ↓reduceIte, reduceCtorEq, Nat.reduceLT, Nat.reduceEqDiff, Nat.reduceAdd, Nat.reduceLeDiff, nilTest, dRd, h', List.getElem?_map, hx, Option.map_some, Int.natCast_nonneg]
    by_cases h1 : l[i].1 < 0
    · simp (maxSteps := 2000000) -implicitDefEqProofs only [zz, ↓reduceIte, h1]
      rw [hnot (.inl (by have : ¬ 0 ≤ l[i].1 := by omega
                         simp [rightRd, this]))]
    simp (maxSteps := 2000000) -implicitDefEqProofs only [zz, ↓reduceIte, h1]
    refine acall_flat (by first | rfl | (simp only [xports, xport, hget]; rfl)) (c_tick_Right l[i].2.1) rfl ?_
    try simp (maxSteps := 2000000) -implicitDefEqProofs only [zz, zE, evop, ev, ofVal, tget, tput, ok, V.isUndef, guardOf, Ch.on, calleeOf, withArgs, told, xport, hget, structAt, Blk.width, resOf, resV, resVs, ↓reduceIte, reduceCtorEq, Nat.reduceLT, Nat.reduceEqDiff, Nat.reduceAdd]
    cases h2 : tickR l[i].2.1 with
    | false =>
      simp (maxSteps := 2000000) -implicitDefEqProofs only [zz, ↓reduceIte]
      rw [hnot (.inl (by simp [rightRd, h2]))]
    | true =>
      simp (maxSteps := 2000000) -implicitDefEqProofs only [zz, ↓reduceIte]
      refine acall_flat (by first | rfl | (simp only [xports, xport, hget]; rfl)) (c_span_Right l[i].2.2) rfl ?_
      try simp (maxSteps := 2000000) -implicitDefEqProofs only [zz, zE, evop, ev, ofVal, tget, tput, ok, V.isUndef, guardOf, Ch.on, calleeOf, withArgs, told, xport, hget, structAt, Blk.width, resOf, resV, resVs, ↓reduceIte, reduceCtorEq, Nat.reduceLT, Nat.reduceEqDiff, Nat.reduceAdd]
      cases h3 : spanR l[i].2.2 with
      | false =>
        simp (maxSteps := 2000000) -implicitDefEqProofs only [zz, ↓reduceIte]
        rw [hnot (.inl (by simp [rightRd, h3]))]
      | true =>
        simp (maxSteps := 2000000) -implicitDefEqProofs only [zz, ↓reduceIte]
        refine acall_flat (by first | rfl | (simp only [xports, xport, hget]; rfl)) (c_place l l[i].1 hl) rfl ?_
        try simp (maxSteps := 2000000) -implicitDefEqProofs only [zz, evop, ev, ofVal, tget, tput, ok, V.isUndef, intBin, guardOf, Ch.on, told, xport, resOf, resV, resVs, ↓reduceIte, Nat.reduceLT, Nat.reduceEqDiff, nilTest]
        have hr : rightRd l[i] = true := by have : 0 ≤ l[i].1 := by omega
                                            simp [rightRd, h2, h3, this]
        by_cases h4 : placeR l l[i].1 = i
        · have e4 : (placeR l l[i].1 != (i : Int)) = false := by simpa using h4
          simp (maxSteps := 2000000) -implicitDefEqProofs only [zz, ↓reduceIte, e4, hw]
          refine ⟨fun j x hj hxj => ?_, Weak.trims 0 rfl (by simp [tget, V.lower]) (by simp)⟩
          by_cases e : j = i
          · subst e; rw [hx] at hxj; cases hxj; exact ⟨hr, h4⟩
          · exact hI j x (by omega) hxj
        · have e4 : (placeR l l[i].1 != (i : Int)) = true := by simpa using h4
          simp (maxSteps := 2000000) -implicitDefEqProofs only [↓reduceIte, e4]
          rw [hnot (.inr h4)]
  · have h' : ¬ ((l.length : Int) < (l.length : Int)) := by omega
    simp (maxSteps := 2000000) -implicitDefEqProofs only [zz, zE, evop, ev, ofVal, tget, tput, ok, V.isUndef, intBin, Ch.on, told, xport, sliceOf, lenOf, resOf, resV, resVs, ↓reduceIte, reduceCtorEq, Nat.reduceLT, Nat.reduceEqDiff, nilTest, h']
    by_cases h24 : l.length ≤ 24
    · rw [readsR_of (fun j x hx => hI j x (List.getElem?_eq_some_iff.1 hx).1 hx) h24]
      have : ((l.length : Int) ≤ 24) := by omega
      simp [this]
    · have : readsR l = false := by simp [readsR, h24]
      rw [this]
      have : ¬ ((l.length : Int) ≤ 24) := by omega
      simp [this]

theorem c_reads_Find (l : List Rd) (c : Int) (hl : l.length ≤ 1000000) : CSpec Tryz.prog 169 [.vec (l.map dRd), .int .i64 c] (.tuple [dRd (findR l c).1, .bool (findR l c).2]) := by
  refine CSpec.of_awp envOf_ok hmix Tryz.func169 rfl (fun args w => Tryz.call169 args w) (by simp [Tryz.f169]) ?_
  simp only [Tryz.f169]
  simp (maxSteps := 2000000) -implicitDefEqProofs only [zz, zE, evop, ev, ofVal, tget, tput, ok, V.isUndef, initT, Ch.on, calleeOf, withArgs, hput, ↓reduceIte, reduceCtorEq, Nat.reduceLT, Nat.reduceEqDiff, dRd]
  refine acall_flat (by first | rfl | (simp only [xports, xport, hget]; rfl)) (c_place l c hl) rfl ?_
  try simp (maxSteps := 2000000) -implicitDefEqProofs only [zz, zE, evop, ev, ofVal, tget, tput, ok, V.isUndef, intBin, guardOf, Ch.on, calleeOf, withArgs, told, xport, xports, hget, hput, V.cells, V.one, partsV, splice, resOf, resV, resVs, ↓reduceIte, reduceCtorEq, Nat.reduceLT, Nat.reduceEqDiff, Nat.reduceAdd, Nat.reduceLeDiff, nilTest]
  unfold findR
  rcases placeR_cases l c with ⟨h1, h2⟩ | ⟨j, x, h1, h2, h3, h4, _⟩
  · rw [h1, h2]
    have hneg : ((-1 : Int) < 0) := by decide
    simp (maxSteps := 2000000) -implicitDefEqProofs only [zz, ↓reduceIte, Int.reduceNeg, hneg]
    simp
  · have hj : ¬ ((j : Int) < 0) := by omega
    rw [h1, h4]
    simp (maxSteps := 2000000) -implicitDefEqProofs only [zz, ↓reduceIte, hj]
    refine acall_flat (by first | rfl | (simp only [xports, xport, hget]; rfl)) (c_reads_Right l hl) rfl ?_
    try simp (maxSteps := 2000000) -implicitDefEqProofs only [zz, zE, evop, ev, ofVal, tget, tput, ok, V.isUndef, guardOf, Ch.on, told, xport, xports, hget, hput, V.cells, D.cells, V.one, partsV, splice, resOf, resV, resVs, ↓reduceIte, reduceCtorEq, Nat.reduceLT, Nat.reduceEqDiff, Nat.reduceAdd, Nat.reduceLeDiff]
    cases hr : readsR l with
    | false =>
      simp (maxSteps := 2000000) -implicitDefEqProofs only [zz, ↓reduceIte]
      try simp
    | true =>
      simp (maxSteps := 2000000) -implicitDefEqProofs only [zz, zE, evop, ev, ofVal, tget, tput, ok, V.isUndef, Ch.on, xport, xports, hget, hput, V.cells, D.cells, V.one, loadD, splice, resOf, resV, resVs, ↓reduceIte, Nat.reduceLT, Nat.reduceEqDiff, Nat.reduceAdd, Nat.reduceLeDiff, dRd, List.getElem?_map, h2, Option.map_some, Int.natCast_nonneg]
      try simp

theorem c_reads_Add (l : List Rd) (r : Rd) (hl : l.length < 24) (hr : readsR l = true) (hx : rightRd r = true) (hf : l.find? (fun x => x.1 == r.1) = none) : CSpec Tryz.prog 170 [.vec (l.map dRd), dRd r] (.tuple [.vec ((l ++ [r]).map dRd), .int .i64 0]) := by
  refine CSpec.of_awp envOf_ok hmix Tryz.func170 rfl (fun args w => Tryz.call170 args w) (by simp [Tryz.f170]) ?_
  simp only [Tryz.f170]
  simp (maxSteps := 2000000) -implicitDefEqProofs only [zz, zE, evop, ev, ofVal, tget, tput, ok, V.isUndef, initT, Ch.on, calleeOf, withArgs, hput, V.cells, ↓reduceIte, reduceCtorEq, Nat.reduceLT, dRd]
  refine acall_flat (by first | rfl | (simp only [xports, xport, hget]; rfl)) (c_reads_Right l (by omega)) rfl ?_
  try simp (maxSteps := 2000000) -implicitDefEqProofs only [zz, zE, evop, ev, ofVal, tget, tput, ok, V.isUndef, guardOf, Ch.on, calleeOf, withArgs, told, xport, xports, hget, hput, V.cells, D.cells, V.one, V.clo, clos, V.toD, sliceOf, partsD, resOf, resV, resVs, ↓reduceIte, reduceCtorEq, Nat.reduceLT, Nat.reduceEqDiff, Nat.reduceAdd, Nat.reduceMul, Nat.reduceLeDiff]
  simp (maxSteps := 2000000) -implicitDefEqProofs only [zz, ↓reduceIte, hr]
  have h1 := c_reads_Right [r] (by simp)
  rw [readsR_one hx] at h1
  refine acall_flat (by first | rfl | (simp only [xports, xport, hget]; rfl)) (h1) rfl ?_
  try simp (maxSteps := 2000000) -implicitDefEqProofs only [zz, zE, evop, ev, tget, tput, ok, V.isUndef, guardOf, Ch.on, calleeOf, withArgs, told, hget, structAt, Blk.width, ↓reduceIte, reduceCtorEq, Nat.reduceLT, Nat.reduceEqDiff, Nat.reduceAdd]
  refine acall_flat (by first | rfl | (simp only [xports, xport, hget]; rfl)) (c_place l r.1 (by omega)) rfl ?_
  try simp (maxSteps := 2000000) -implicitDefEqProofs only [zz, evop, ev, tget, tput, ok, V.isUndef, Ch.on, ↓reduceIte, Nat.reduceLT]
  have hp : placeR l r.1 = -1 := by
    rcases placeR_cases l r.1 with ⟨h1, _⟩ | ⟨j, x, _, _, _, h4, _⟩
    · exact h1
    · rw [hf] at h4; cases h4
  rw [hp]
  have hneg : ((-1 : Int) ≥ 0) = False := by simp
  refine wdraw_plan [⟨[], true, [], [], false⟩, ⟨[0], true, [], [], false⟩, ⟨[0, 1], true, [], [], false⟩, ⟨[0, 1, 2], false, [26, 29], [], false⟩, ⟨[0, 1, 2], false, [25, 29], [3], false⟩, ⟨[0, 1, 2, 3, 4], false, [29], [], false⟩, ⟨[0, 1, 2, 3, 4, 5], false, [29], [], false⟩, ⟨[0, 1, 2], false, [25, 26, 27, 28], [3, 4, 5, 6], false⟩, ⟨[0, 1, 2, 3, 4, 5, 6, 7], false, [], [], false⟩, ⟨[0, 1, 2, 3, 4, 5, 6, 7, 8], true, [], [], false⟩, ⟨[0, 1, 2, 3, 4, 5, 6, 7, 8, 9], true, [], [], false⟩] (by decide) ?_
  simp (maxSteps := 2000000) -implicitDefEqProofs only [zz, zE, evop, ev, ofVal, tget, tput, ok, V.isUndef, intBin, guardOf, Ch.on, told, xport, xports, hput, sliceOf, lenOf, resOf, resV, resVs, ↓reduceIte, reduceCtorEq, Nat.reduceLT, Nat.reduceEqDiff, Nat.reduceAdd, Nat.reduceSub, Int.reduceNeg, nilTest, hneg]
  have h24 : ((l.length : Int) == 24) = false := by simp; omega
  simp (maxSteps := 2000000) -implicitDefEqProofs only [zz, ↓reduceIte, Int.reduceNeg, h24]
  refine wdraw_plan [⟨[], false, [44, 45], [], false⟩, ⟨[0], false, [44, 45], [], false⟩, ⟨[], false, [42, 43], [0, 1], false⟩, ⟨[2], false, [42, 43], [0, 1], false⟩, ⟨[0, 1, 2, 3], true, [], [], false⟩, ⟨[0, 1, 2, 3, 4], true, [], [], false⟩, ⟨[0, 1, 2, 3, 4, 5], true, [], [], false⟩] (by decide) ?_
  simp (maxSteps := 2000000) -implicitDefEqProofs only [zz, zE, evop, ev, ofVal, tget, tput, ok, V.isUndef, calleeOf, withArgs, hget, hput, V.cells, D.cells, V.one, V.clo, clos, V.toD, sliceOf, partsD, elems, ↓reduceIte, reduceCtorEq, Nat.reduceLT, Nat.reduceEqDiff, Nat.reduceAdd, Nat.reduceMul, Nat.reduceLeDiff, Int.reduceNeg]
  have hc := o_Clone_Rd (l.map dRd) (by simp; omega) (okEl_Rd _)
  rw [List.length_map] at hc
  refine dcall_own (by first | rfl | (simp only [xports, xport, hget]; rfl)) (hc) rfl ?_
  try simp (maxSteps := 2000000) -implicitDefEqProofs only [zz, evop, ev, ofVal, tget, tput, ok, V.isUndef, Ch.on, xport, xports, hget, hput, resOf, resV, resVs, ↓reduceIte, Nat.reduceLT, Nat.reduceEqDiff, Nat.reduceAdd, Int.reduceNeg, V.ren]
  refine ⟨⟨by omega, okEl_Rd [r]⟩, ?_⟩
  have ht : List.take l.length (List.map dRd l) = l.map dRd := by rw [List.take_of_length_le]; simp
  simp [ht]
  rw [List.take_of_length_le (by simp)]
  rfl
end Go.Proofs.YtjhfpabldidlgaaGreat.AM

/- A try is settled; begins. -/
set_option linter.all false
set_option maxRecDepth 100000
set_option maxHeartbeats 4000000
namespace Go.Proofs.YtjhfpabldidlgaaGreat.AM
open Go Go.RowKit

/-- A try's variable. -/
def bT (t : Ty) : Blk := .box false [.d (.int .i64 t.who), .d (.int .i64 t.snap), .d (.int .i64 t.pc), .d (.vec (t.regs.map dI)), .d (.vec (t.path.map dI)), .d (.vec (t.reads.map dRd)), .d (.vec (t.log.1.map dW)), .d (.vec (t.log.2.map dI)), .d (.vec (t.frames.map dFr)), .d (.int .i64 t.kind), .d (.int .i64 t.why)]

/-- The variable of a result. -/
def bZ : Blk := .box false [.d (.int .i64 0), .d (.int .i64 0), .d (.int .i64 0), .nils, .nils, .nils, .nils, .nils, .nils, .d (.int .i64 0), .d (.int .i64 0)]

theorem okCells_Fr (l : List Fr) : ∀ e ∈ l.map dFr, (match e with
    | D.agg cs => cs
    | x => [x]).length = 4 := by
  intro e he
  obtain ⟨w, _, rfl⟩ := List.mem_map.1 he
  rfl

theorem logKeep_lens (l : Lg) : (logKeep l).1.1.length = l.1.length ∧ (logKeep l).1.2.length ≤ l.2.length := by
  unfold logKeep; split <;> simp

theorem c_settled (t : Ty) (c : List St) (h1 : t.log.1.length ≤ 1000000) (h2 : t.log.2.length ≤ 1000000) (h3 : t.frames.length ≤ 1000000) : CSpec Tryz.prog 54 [dT t, .vec (c.map dS)] (dT (setT c.length t)) := by
  refine CSpec.of_awp envOf_ok hmix Tryz.func54 rfl (fun args w => Tryz.call54 args w) (by simp [Tryz.f54]) ?_
  simp only [Tryz.f54]
  simp (maxSteps := 2000000) -implicitDefEqProofs only [zz, zE, evop, ev, tget, V.isUndef, initT, V.cells, ↓reduceIte]
  unfold dT tyC
  simp (maxSteps := 2000000) -implicitDefEqProofs only [zz, zE, evop, ev, tget, tput, ok, V.isUndef, Ch.on, hget, hput, structAt, sliceOf, Blk.width, lenOf, ↓reduceIte, reduceCtorEq, Nat.reduceLT, Nat.reduceEqDiff, Nat.reduceAdd]
  refine wloop_ind (σ := Ty × Nat) (fun z => z.2) (fun z => [(5, .d (.int .i64 z.2)), (2, .ptr 0 0 0), (4, .ptr 1 0 0), (1, .d (.vec (c.map dS)))]) (fun z => [bT z.1, bZ]) (fun z => setF z.2 z.1 = setF t.frames.length t ∧ z.1.frames.length = z.2 ∧ z.1.log.1.length ≤ 1000000 ∧ z.1.log.2.length ≤ 1000000 ∧ z.2 ≤ 1000000) (t, t.frames.length) ⟨rfl, rfl, h1, h2, h3⟩ ?_ ?_
  · exact Weak.trims 2 rfl (by simp [tget, V.lower]) (by simp [bT, bZ, Blk.lower, lowerL, V.lower])
  rintro ⟨u, n⟩ ⟨hs, hn, hl1, hl2, hl3⟩
  simp only at hs hn hl1 hl2 hl3
  have fin : setF n u = u → setT c.length t = doneT c.length u := fun e => by unfold setT; rw [← hs, e]
  rcases n with _ | k
  · have hfin := fin rfl
    refine wdraw_plan [⟨[], true, [], [], false⟩, ⟨[0], true, [], [], false⟩, ⟨[0, 1], true, [], [], false⟩, ⟨[0, 1, 2], false, [14, 15, 19, 20], [], false⟩, ⟨[0, 1, 2, 3], false, [14, 15, 19, 20], [], false⟩, ⟨[0, 1, 2], false, [12, 13, 19, 20], [3, 4], false⟩, ⟨[0, 1, 2, 5], false, [12, 13, 19, 20], [3, 4], false⟩, ⟨[0, 1, 2, 3, 4, 5, 6], false, [19, 20], [], false⟩, ⟨[0, 1, 2, 3, 4, 5, 6, 7], false, [19, 20], [], false⟩, ⟨[0, 1, 2, 3, 4, 5, 6, 7, 8], false, [19, 20], [], false⟩, ⟨[0, 1, 2], false, [12, 13, 14, 15, 16, 17, 18], [3, 4, 5, 6, 7, 8, 9], false⟩, ⟨[0, 1, 2, 10], false, [12, 13, 14, 15, 16, 17, 18], [3, 4, 5, 6, 7, 8, 9], false⟩, ⟨[0, 1, 2, 3, 4, 5, 6, 7, 8, 9, 10, 11], false, [], [], false⟩, ⟨[0, 1, 2, 3, 4, 5, 6, 7, 8, 9, 10, 11, 12], true, [], [], false⟩] (by decide) ?_
    simp (maxSteps := 2000000) -implicitDefEqProofs only [zz, zE, evop, ev, ofVal, tget, tput, ok, V.isUndef, intBin, guardOf, Ch.on, told, xport, xports, hget, hput, V.cells, V.one, structAt, sliceOf, Blk.width, lenOf, splice, resOf, resV, resVs, ↓reduceIte, reduceCtorEq, Nat.reduceLT, Nat.reduceEqDiff, Nat.reduceAdd, Nat.reduceSub, Nat.reduceLeDiff, nilTest, bT, bZ, Int.lt_irrefl]
    by_cases hd : u.pc = (c.length : Int)
    · have e : (u.pc == (c.length : Int)) = true := by simpa using hd
      rw [hfin, doneT, if_pos hd]
      simp (maxSteps := 2000000) -implicitDefEqProofs only [↓reduceIte, e]
    · have e : (u.pc == (c.length : Int)) = false := by simpa using hd
      rw [hfin, doneT, if_neg hd]
      simp (maxSteps := 2000000) -implicitDefEqProofs only [zz, ↓reduceIte, e]
  · obtain ⟨f, hx⟩ : ∃ f, u.frames[k]? = some f := ⟨_, List.getElem?_eq_getElem (by omega)⟩
    have hpos : (((k + 1 : Nat) : Int) > 0) := by omega
    have hwk : IntKind.i64.wrap (((k + 1 : Nat) : Int) - 1) = (k : Int) := by rw [wrap_in (by omega)]; omega
    refine wdraw_plan [⟨[], true, [], [], false⟩, ⟨[0], true, [], [], false⟩, ⟨[0, 1], true, [], [], false⟩, ⟨[0, 1, 2], false, [14, 15, 19, 20], [], false⟩, ⟨[0, 1, 2, 3], false, [14, 15, 19, 20], [], false⟩, ⟨[0, 1, 2], false, [12, 13, 19, 20], [3, 4], false⟩, ⟨[0, 1, 2, 5], false, [12, 13, 19, 20], [3, 4], false⟩, ⟨[0, 1, 2, 3, 4, 5, 6], false, [19, 20], [], false⟩, ⟨[0, 1, 2, 3, 4, 5, 6, 7], false, [19, 20], [], false⟩, ⟨[0, 1, 2, 3, 4, 5, 6, 7, 8], false, [19, 20], [], false⟩, ⟨[0, 1, 2], false, [12, 13, 14, 15, 16, 17, 18], [3, 4, 5, 6, 7, 8, 9], false⟩, ⟨[0, 1, 2, 10], false, [12, 13, 14, 15, 16, 17, 18], [3, 4, 5, 6, 7, 8, 9], false⟩, ⟨[0, 1, 2, 3, 4, 5, 6, 7, 8, 9, 10, 11], false, [], [], false⟩, ⟨[0, 1, 2, 3, 4, 5, 6, 7, 8, 9, 10, 11, 12], true, [], [], false⟩] (by decide) ?_
    simp (maxSteps := 2000000) -implicitDefEqProofs only [zz, zE, evop, ev, ofVal, tget, tput, ok, V.isUndef, intBin, guardOf, Ch.on, calleeOf, withArgs, told, xport, xports, hget, hput, V.cells, D.cells, V.isAgg, V.one, loadD, structAt, sliceOf, bound, Blk.width, lenOf, splice, resOf, resV, resVs, ↓reduceIte, reduceCtorEq, Nat.reduceLT, Nat.reduceEqDiff, Nat.reduceAdd, Nat.reduceSub, Nat.reduceLeDiff, nilTest, dFr, bT, bZ, hpos, hwk, List.getElem?_map, hx, Option.map_some, Int.natCast_nonneg]
    by_cases hm : f.mid = u.pc
    · have e : (f.mid == u.pc) = true := by simpa using hm
      have hdl : u.frames.dropLast = u.frames.take k := by rw [List.dropLast_eq_take, hn]; rfl
      have hw0 : IntKind.i64.wrap (k : Int) = (k : Int) := by rw [wrap_in (by omega)]
      have er : List.take ((k : Int) - 0).toNat (u.frames.map dFr) = u.frames.dropLast.map dFr := by
        rw [hdl, List.map_take]; simp
      have hk := c_W_Keep u.log hl1 hl2
      unfold dLE at hk
      obtain ⟨q1, q2⟩ := logKeep_lens u.log
      simp (maxSteps := 2000000) -implicitDefEqProofs only [↓reduceIte, e, er]
      refine ⟨⟨Int.le_refl _, by omega, okCells_Fr _⟩, ?_⟩
      refine acall_ice (by first | rfl | (simp only [xports, xport, hget]; rfl)) (hk) ?_
      try simp (maxSteps := 2000000) -implicitDefEqProofs only [zz, zE, evop, ev, ofVal, tget, tput, ok, V.isUndef, intBin, Ch.on, tids, tidss, hget, hput, freeze, V.cells, V.one, structAt, Blk.width, splice, ↓reduceIte, reduceCtorEq, Nat.reduceLT, Nat.reduceEqDiff, Nat.reduceAdd, Nat.reduceLeDiff, nilTest, dLg]
      refine ⟨(popT u f, k), ⟨?_, ?_, ?_, ?_, ?_⟩, by simp only; omega, ?_⟩
      · rw [← hs, setF, hx]
        simp only
        rw [if_pos hm]
      · simp only [popT, hdl, List.length_take]; omega
      · simp only [popT]; omega
      · simp only [popT]; omega
      · simp only; omega
      · exact Weak.trims 2 rfl (by simp [tget, V.lower, hw0]) (by simp [bT, bZ, Blk.lower, lowerL, V.lower])
    · have e : (f.mid == u.pc) = false := by simpa using hm
      have hfin := fin (by rw [setF, hx]; simp only; rw [if_neg hm])
      simp (maxSteps := 2000000) -implicitDefEqProofs only [zz, ↓reduceIte, e]
      by_cases hd : u.pc = (c.length : Int)
      · have e : (u.pc == (c.length : Int)) = true := by simpa using hd
        rw [hfin, doneT, if_pos hd]
        simp (maxSteps := 2000000) -implicitDefEqProofs only [↓reduceIte, e]
      · have e : (u.pc == (c.length : Int)) = false := by simpa using hd
        rw [hfin, doneT, if_neg hd]
        simp (maxSteps := 2000000) -implicitDefEqProofs only [zz, ↓reduceIte, e]
end Go.Proofs.YtjhfpabldidlgaaGreat.AM

/- The document's small functions. -/
set_option linter.all false
set_option maxRecDepth 100000
set_option maxHeartbeats 4000000
namespace Go.Proofs.YtjhfpabldidlgaaGreat.AM
open Go Go.RowKit

end Go.Proofs.YtjhfpabldidlgaaGreat.AM

/- The parts of the stable sort: swapRange, rotate. -/
set_option linter.all false
set_option maxRecDepth 100000
set_option maxHeartbeats 4000000
namespace Go.Proofs.YtjhfpabldidlgaaGreat.AM
open Go Go.RowKit

theorem two_get {α : Type} {A B C : List α} {u v : α} {i j : Nat} (hi : A.length = i) (hj : i + 1 + B.length = j) : (A ++ u :: (B ++ v :: C))[i]? = some u ∧ (A ++ u :: (B ++ v :: C))[j]? = some v ∧ ((A ++ u :: (B ++ v :: C)).set i v)[j]? = some v ∧ ((A ++ u :: (B ++ v :: C)).set i v).set j u = A ++ v :: (B ++ u :: C) := by
  subst hi; subst hj
  have e1 : ∀ x : α, (A ++ x :: (B ++ v :: C))[A.length + 1 + B.length]? = some v := fun x => by
    rw [List.getElem?_append_right (by omega)]
    have : A.length + 1 + B.length - A.length = B.length + 1 := by omega
    rw [this, List.getElem?_cons_succ, List.getElem?_append_right (Nat.le_refl _), Nat.sub_self]; rfl
  have e2 : (A ++ u :: (B ++ v :: C)).set A.length v = A ++ v :: (B ++ v :: C) := by
    rw [List.set_append_right _ _ (Nat.le_refl _), Nat.sub_self]; rfl
  refine ⟨by rw [List.getElem?_append_right (Nat.le_refl _), Nat.sub_self]; rfl, e1 u, by rw [e2]; exact e1 v, ?_⟩
  rw [e2, List.set_append_right _ _ (by omega)]
  have : A.length + 1 + B.length - A.length = B.length + 1 := by omega
  rw [this, List.set_cons_succ, List.set_append_right _ _ (Nat.le_refl _), Nat.sub_self]; rfl

theorem set_dW' (l : List (Int × Int)) (i : Nat) (a : Int × Int) : (l.map dW).set i (.agg [.int .i64 a.1, .int .i64 a.2]) = (l.set i a).map dW := by
  rw [List.map_set]; rfl

theorem r_swapRange_W (Pre U M Y Post : List (Int × Int)) (N : Nat) (hN : (Pre ++ (U ++ (M ++ (Y ++ Post)))).length = N) (hN' : N ≤ 1000000) (hUV : U.length = Y.length) (b : Nat) (hb : b = Pre.length + U.length + M.length) (f : Nat) :
    RSpec Tryz.prog 240 [.own 0 0 N, .d (.int .i64 Pre.length), .d (.int .i64 b), .d (.int .i64 U.length), .func (f, 0) []] [.dat false 2 ((Pre ++ (U ++ (M ++ (Y ++ Post)))).map dW)] (.tuple [])
      [.dat false 2 ((Pre ++ (Y ++ (M ++ (U ++ Post)))).map dW)] := by
  refine RSpec.of_awp envOf_ok hmix Tryz.func240 rfl (fun args w => Tryz.call240 args w) (by simp [Tryz.f240]) ?_
  simp only [Tryz.f240]
  simp (maxSteps := 2000000) -implicitDefEqProofs only [zz, evop, ev, ofVal, tput, ok, V.isUndef, Ch.on, ↓reduceIte, Nat.reduceLT, Nat.reduceAdd, initV]
  simp only [List.length_append] at hN
  refine wloop_count U.length (fun i => [(10, .d (.int .i64 i)), (0, .own 0 0 N), (1, .d (.int .i64 Pre.length)), (2, .d (.int .i64 b)), (3, .d (.int .i64 U.length)), (4, .func (f, 0) [])])
    (fun i => [.dat false 2 ((Pre ++ ((Y.take i ++ U.drop i) ++ (M ++ ((U.take i ++ Y.drop i) ++ Post)))).map dW)]) (fun i => True) trivial (Weak.sub (by simp [tget])) (fun i hi _ => ?_) (fun _ => ?_)
  · have h' : ((i : Int) < (U.length : Int)) := by omega
    obtain ⟨u, hu⟩ : ∃ u, u = U[i] := ⟨_, rfl⟩
    obtain ⟨v, hv⟩ : ∃ v, v = Y[i]'(by omega) := ⟨_, rfl⟩
    have hL : Pre ++ ((Y.take i ++ U.drop i) ++ (M ++ ((U.take i ++ Y.drop i) ++ Post))) = (Pre ++ Y.take i) ++ u :: ((U.drop (i + 1) ++ M ++ U.take i) ++ v :: (Y.drop (i + 1) ++ Post)) := by
      rw [List.drop_eq_getElem_cons hi, List.drop_eq_getElem_cons (l := Y) (by omega), ← hu, ← hv]; simp
    have hL2 : Pre ++ ((Y.take (i + 1) ++ U.drop (i + 1)) ++ (M ++ ((U.take (i + 1) ++ Y.drop (i + 1)) ++ Post))) = (Pre ++ Y.take i) ++ v :: ((U.drop (i + 1) ++ M ++ U.take i) ++ u :: (Y.drop (i + 1) ++ Post)) := by
      rw [List.take_add_one (l := Y), List.take_add_one (l := U), List.getElem?_eq_getElem hi, List.getElem?_eq_getElem (l := Y) (by omega), ← hu, ← hv]; simp
    obtain ⟨g1, g2, g3, g4⟩ := two_get (A := Pre ++ Y.take i) (B := U.drop (i + 1) ++ M ++ U.take i) (C := Y.drop (i + 1) ++ Post) (u := u) (v := v) (i := Pre.length + i) (j := b + i) (by simp; omega) (by simp; omega)
    have hw1 : IntKind.i64.wrap ((Pre.length : Int) + (i : Int)) = ((Pre.length + i : Nat) : Int) := by rw [wrap_in (by omega)]; omega
    have hw2 : IntKind.i64.wrap ((b : Int) + (i : Int)) = ((b + i : Nat) : Int) := by rw [wrap_in (by omega)]; omega
    have hw3 : IntKind.i64.wrap ((i : Int) + 1) = ((i + 1 : Nat) : Int) := by rw [wrap_in (by omega)]; omega
    rw [hL, hL2]
    simp (maxSteps := 2000000) -implicitDefEqProofs only [zz, evop, ev, tget, tput, ok, V.isUndef, intBin, Ch.on, told, ↓reduceIte, reduceCtorEq, Nat.reduceLT, Nat.reduceEqDiff, nilTest, h']
    refine wdraw_plan [⟨[], false, [17, 18, 19, 20, 21, 22, 23, 24, 25, 26, 27, 28, 29, 30, 31, 32, 33, 34, 35], [], false⟩, ⟨[], false, [16, 18, 20, 21, 22, 23, 24, 25, 26, 27, 28, 29, 30, 31, 32, 33, 34, 35], [0], false⟩, ⟨[], false, [16, 17, 20, 21, 22, 23, 24, 25, 26, 27, 28, 29, 30, 31, 32, 33, 34, 35], [0, 1], false⟩, ⟨[1, 2], false, [16, 20, 21, 22, 23, 24, 25, 26, 27, 28, 29, 30, 31, 32, 33, 34, 35], [0], false⟩, ⟨[], false, [16, 17, 18, 19, 20, 21, 22, 23, 24, 25, 26, 27, 28, 29, 30, 31, 32, 33, 34, 35, 36, 37], [0, 1, 2, 3], true⟩, ⟨[], false, [16, 17, 18, 19, 20, 21, 22, 23, 24, 25, 26, 27, 28, 29, 30, 31, 32, 33, 34, 35, 36, 37], [0, 1, 2, 3, 4], true⟩, ⟨[], false, [16, 17, 18, 19, 20, 21, 22, 23, 24, 25, 26, 27, 28, 29, 30, 31, 32, 33, 34, 35, 36, 37], [0, 1, 2, 3, 4, 5], true⟩, ⟨[5, 6], false, [16, 17, 18, 19, 20, 23, 24, 25, 26, 27, 28, 29, 30, 31, 32, 33, 34, 35, 36, 37], [0, 1, 2, 3, 4], true⟩, ⟨[], false, [16, 17, 18, 19, 20, 21, 22, 23, 25, 26, 27, 30, 31, 32, 33, 34, 35], [0, 1, 2, 3, 4, 5, 6, 7], false⟩, ⟨[], false, [16, 17, 18, 19, 20, 21, 22, 23, 24, 26, 30, 31, 32, 33, 34, 35], [0, 1, 2, 3, 4, 5, 6, 7, 8], false⟩, ⟨[], false, [16, 17, 18, 19, 20, 21, 22, 23, 24, 25, 30, 31, 32, 33, 34, 35], [0, 1, 2, 3, 4, 5, 6, 7, 8, 9], false⟩, ⟨[9, 10], false, [16, 17, 18, 19, 20, 21, 22, 23, 24, 30, 31, 32, 33, 34, 35], [0, 1, 2, 3, 4, 5, 6, 7, 8], false⟩, ⟨[8, 9, 10, 11], false, [16, 17, 18, 19, 20, 21, 22, 23, 30, 31, 32, 33, 34, 35], [0, 1, 2, 3, 4, 5, 6, 7], false⟩, ⟨[8, 9, 10, 11, 12], false, [16, 17, 18, 19, 20, 21, 22, 23, 30, 31, 32, 33, 34, 35], [0, 1, 2, 3, 4, 5, 6, 7], false⟩, ⟨[], false, [16, 17, 18, 19, 20, 21, 22, 23, 24, 25, 26, 27, 28, 29, 31, 32, 33], [0, 1, 2, 3, 4, 5, 6, 7, 8, 9, 10, 11, 12, 13], false⟩, ⟨[], false, [16, 17, 18, 19, 20, 21, 22, 23, 24, 25, 26, 27, 28, 29, 30, 32], [0, 1, 2, 3, 4, 5, 6, 7, 8, 9, 10, 11, 12, 13, 14], false⟩, ⟨[], false, [16, 17, 18, 19, 20, 21, 22, 23, 24, 25, 26, 27, 28, 29, 30, 31], [0, 1, 2, 3, 4, 5, 6, 7, 8, 9, 10, 11, 12, 13, 14, 15], false⟩, ⟨[15, 16], false, [16, 17, 18, 19, 20, 21, 22, 23, 24, 25, 26, 27, 28, 29, 30], [0, 1, 2, 3, 4, 5, 6, 7, 8, 9, 10, 11, 12, 13, 14], false⟩, ⟨[14, 15, 16, 17], false, [16, 17, 18, 19, 20, 21, 22, 23, 24, 25, 26, 27, 28, 29], [0, 1, 2, 3, 4, 5, 6, 7, 8, 9, 10, 11, 12, 13], false⟩, ⟨[14, 15, 16, 17, 18], false, [16, 17, 18, 19, 20, 21, 22, 23, 24, 25, 26, 27, 28, 29], [0, 1, 2, 3, 4, 5, 6, 7, 8, 9, 10, 11, 12, 13], false⟩, ⟨[0, 1, 2, 3, 8, 9, 10, 11, 12, 13, 14, 15, 16, 17, 18, 19], false, [20, 21, 22, 23], [4, 5, 6, 7], false⟩, ⟨[0, 1, 2, 3, 8, 9, 10, 11, 12, 13, 14, 15, 16, 17, 18, 19, 20], true, [20, 21, 22, 23], [], false⟩, ⟨[0, 1, 2, 3, 4, 5, 6, 7, 8, 9, 10, 11, 12, 13, 14, 15, 16, 17, 18, 19, 20, 21], true, [], [], false⟩, ⟨[0, 1, 2, 3, 4, 5, 6, 7, 8, 9, 10, 11, 12, 13, 14, 15, 16, 17, 18, 19, 20, 21, 22], true, [], [], false⟩] (by decide) ?_
    simp (maxSteps := 2000000) -implicitDefEqProofs only [zz, zE, evop, ev, ofVal, tget, tput, ok, V.isUndef, intBin, Ch.on, hget, hput, V.cells, D.cells, V.isAgg, V.one, V.clo, clos, loadD, Blk.width, splice, D.over, ↓reduceIte, reduceCtorEq, Nat.reduceLT, Nat.reduceEqDiff, Nat.reduceAdd, Nat.reduceLeDiff, nilTest, dW, hw1, hw2, hw3, List.getElem?_map, g1, g2, g3, Option.map_some, Int.natCast_nonneg, set_dW', g4]
    refine ⟨by omega, by omega, by omega, by omega, Weak.trimsM 1 (by simp) rfl (by simp [tget, V.lower, lowerL]) (by simp [Blk.lower])⟩
  · have h' : ¬ ((U.length : Int) < (U.length : Int)) := by omega
    simp (maxSteps := 2000000) -implicitDefEqProofs only [zz, evop, ev, tget, tput, ok, V.isUndef, intBin, Ch.on, told, resOf, resVs, ↓reduceIte, reduceCtorEq, Nat.reduceLT, Nat.reduceEqDiff, nilTest, h']
    have : Y.take U.length = Y := List.take_of_length_le (by omega)
    have e2 : Y.drop U.length = [] := List.drop_of_length_le (by omega)
    rw [this, e2, List.drop_length, List.take_length, List.append_nil, List.append_nil]
    exact Weak.sub (by simp [tget])


theorem r_swapRange (Pre U M Y Post : List (Int × Int)) (N a b n : Nat) (hN : (Pre ++ (U ++ (M ++ (Y ++ Post)))).length = N) (hN' : N ≤ 1000000) (ha : a = Pre.length) (hn : n = U.length) (hUY : n = Y.length) (hb : b = Pre.length + U.length + M.length) (f : Nat) :
    RSpec Tryz.prog 240 [.own 0 0 N, .d (.int .i64 a), .d (.int .i64 b), .d (.int .i64 n), .func (f, 0) []] [.dat false 2 ((Pre ++ (U ++ (M ++ (Y ++ Post)))).map dW)] (.tuple [])
      [.dat false 2 ((Pre ++ (Y ++ (M ++ (U ++ Post)))).map dW)] := by
  subst ha; subst hn
  exact r_swapRange_W Pre U M Y Post N hN hN' hUY b hb f

theorem r_rotate (Pre U Y Post : List (Int × Int)) (N a m b : Nat) (hN : (Pre ++ (U ++ (Y ++ Post))).length = N) (hN' : N ≤ 1000000) (ha : a = Pre.length) (hm : m = a + U.length) (hb : b = m + Y.length) (hU : 0 < U.length) (hY : 0 < Y.length) (f : Nat) :
    RSpec Tryz.prog 237 [.own 0 0 N, .d (.int .i64 a), .d (.int .i64 m), .d (.int .i64 b), .func (f, 0) []] [.dat false 2 ((Pre ++ (U ++ (Y ++ Post))).map dW)] (.tuple [])
      [.dat false 2 ((Pre ++ (Y ++ (U ++ Post))).map dW)] := by
  refine RSpec.of_awp envOf_ok hmix Tryz.func237 rfl (fun args w => Tryz.call237 args w) (by simp [Tryz.f237]) ?_
  simp only [Tryz.f237]
  simp (maxSteps := 2000000) -implicitDefEqProofs only [zz, evop, ev, tget, tput, ok, V.isUndef, intBin, Ch.on, ↓reduceIte, reduceCtorEq, Nat.reduceLT, Nat.reduceEqDiff, Nat.reduceAdd, nilTest, initV]
  simp only [List.length_append] at hN
  have hw1 : IntKind.i64.wrap ((m : Int) - (a : Int)) = (U.length : Int) := by rw [wrap_in (by omega)]; omega
  have hw2 : IntKind.i64.wrap ((b : Int) - (m : Int)) = (Y.length : Int) := by rw [wrap_in (by omega)]; omega
  simp only [hw1, hw2]
  obtain ⟨T, hT⟩ : ∃ T, T = Pre ++ (Y ++ (U ++ Post)) := ⟨_, rfl⟩
  have hTl : T.length = N := by rw [hT]; simp; omega
  refine wloop_ind (σ := List (Int × Int) × List (Int × Int) × List (Int × Int) × List (Int × Int)) (fun s => s.2.1.length + s.2.2.1.length) (fun s => [(10, .d (.int .i64 s.2.1.length)), (11, .d (.int .i64 s.2.2.1.length)), (0, .own 0 0 N), (2, .d (.int .i64 m)), (4, .func (f, 0) [])])
    (fun s => [.dat false 2 ((s.1 ++ (s.2.1 ++ (s.2.2.1 ++ s.2.2.2))).map dW)]) (fun s => s.1.length + s.2.1.length = m ∧ 0 < s.2.1.length ∧ 0 < s.2.2.1.length ∧ s.1 ++ (s.2.2.1 ++ (s.2.1 ++ s.2.2.2)) = T) (Pre, U, Y, Post) ⟨by simp only; omega, hU, hY, hT.symm⟩ (Weak.sub (by simp [tget])) ?_
  rintro ⟨Pre', U', Y', Post'⟩ ⟨h1, h2, h3, h4⟩
  simp only at h1 h2 h3 h4
  have hlen : Pre'.length + (U'.length + (Y'.length + Post'.length)) = N := by
    have := congrArg List.length h4; rw [hTl] at this; simp at this; omega
  have hwa : IntKind.i64.wrap ((m : Int) - (U'.length : Int)) = (Pre'.length : Int) := by rw [wrap_in (by omega)]; omega
  rcases Nat.lt_trichotomy U'.length Y'.length with hlt | heq | hgt
  · -- fewer on the left
    obtain ⟨Y1, Y2, rfl, hY2⟩ : ∃ Y1 Y2, Y' = Y1 ++ Y2 ∧ Y2.length = U'.length := ⟨Y'.take (Y'.length - U'.length), Y'.drop (Y'.length - U'.length), (List.take_append_drop _ _).symm, by simp; omega⟩
    rw [List.length_append] at hlt hlen h3
    have e1 : ((U'.length : Int) != ((Y1 ++ Y2).length : Int)) = true := by simp; omega
    have e3 : ¬ (((Y1 ++ Y2).length : Int) < (U'.length : Int)) := by simp; omega
    have hws : IntKind.i64.wrap ((m : Int) + ((Y1 ++ Y2).length : Int)) = ((m + (Y1 ++ Y2).length : Nat) : Int) := by rw [wrap_in (by simp; omega)]; omega
    have hwb : IntKind.i64.wrap (((m + (Y1 ++ Y2).length : Nat) : Int) - (U'.length : Int)) = ((m + Y1.length : Nat) : Int) := by rw [wrap_in (by simp; omega)]; simp; omega
    have hwc : IntKind.i64.wrap (((Y1 ++ Y2).length : Int) - (U'.length : Int)) = (Y1.length : Int) := by rw [wrap_in (by simp; omega)]; simp; omega
    rw [List.append_assoc Y1 Y2 Post']
    simp (maxSteps := 2000000) -implicitDefEqProofs only [zz, evop, ev, tget, tput, ok, V.isUndef, intBin, Ch.on, calleeOf, withArgs, told, ↓reduceIte, reduceCtorEq, Nat.reduceLT, Nat.reduceEqDiff, nilTest, e1, e3, hwa, hws, hwb]
    refine acall_ref [0] (r_swapRange Pre' U' Y1 Y2 Post' N Pre'.length (m + Y1.length) U'.length (by simp; omega) hN' rfl rfl hY2.symm (by omega) f) (by first | rfl | simp [renL, V.ren, frρ, renL_ds]) (by simp) rfl (by simp) (by simp) (by intro j hj; match j, hj with | 0, _ => exact ⟨by simp [hget], rfl⟩) ?_
    try simp (maxSteps := 2000000) -implicitDefEqProofs only [zz, evop, ev, tget, tput, ok, V.isUndef, intBin, Ch.on, hput, ↓reduceIte, Nat.reduceLT, Nat.reduceEqDiff, nilTest, Blk.ren, V.ren, renL, frameH, putL]
    simp (maxSteps := 2000000) -implicitDefEqProofs only [hwc]
    refine ⟨(Pre', Y2, Y1, U' ++ Post'), ⟨by simp only; omega, by simp only; omega, by simp only; omega, by simp only; rw [← h4]; simp⟩, by simp; omega, Weak.trimsM 1 (by simp) rfl (by simp [tget, V.lower, lowerL, hY2]) (by simp [Blk.lower])⟩
  · have e1 : ((U'.length : Int) != (Y'.length : Int)) = false := by simp; omega
    simp (maxSteps := 2000000) -implicitDefEqProofs only [zz, evop, ev, tget, tput, ok, V.isUndef, intBin, Ch.on, calleeOf, withArgs, told, ↓reduceIte, reduceCtorEq, Nat.reduceLT, Nat.reduceEqDiff, nilTest, e1, hwa]
    refine acall_ref [0] (r_swapRange Pre' U' [] Y' Post' N Pre'.length m U'.length (by simp; omega) hN' rfl rfl heq (by simp; omega) f) (by first | rfl | simp [renL, V.ren, frρ, renL_ds]) (by simp) rfl (by simp) (by simp) (by intro j hj; match j, hj with | 0, _ => exact ⟨by simp [hget], rfl⟩) ?_
    try simp (maxSteps := 2000000) -implicitDefEqProofs only [zz, tput, hput, resOf, resVs, ↓reduceIte, Nat.reduceLT, Blk.ren, V.ren, renL, frameH, putL]
    rw [h4, hT]
    exact Weak.trimsM 1 (by simp) rfl (by simp [tget, V.lower, lowerL]) (by simp [Blk.lower])
  · obtain ⟨U1, U2, rfl, hU1⟩ : ∃ U1 U2, U' = U1 ++ U2 ∧ U1.length = Y'.length := ⟨U'.take Y'.length, U'.drop Y'.length, (List.take_append_drop _ _).symm, by simp; omega⟩
    rw [List.length_append] at hgt hlen h2 h1
    have e1 : (((U1 ++ U2).length : Int) != (Y'.length : Int)) = true := by simp; omega
    have e3 : ((Y'.length : Int) < ((U1 ++ U2).length : Int)) := by simp; omega
    have hwc : IntKind.i64.wrap (((U1 ++ U2).length : Int) - (Y'.length : Int)) = (U2.length : Int) := by rw [wrap_in (by simp; omega)]; simp; omega
    rw [List.append_assoc U1 U2]
    simp (maxSteps := 2000000) -implicitDefEqProofs only [zz, evop, ev, tget, tput, ok, V.isUndef, intBin, Ch.on, calleeOf, withArgs, told, ↓reduceIte, reduceCtorEq, Nat.reduceLT, Nat.reduceEqDiff, nilTest, e1, e3, hwa]
    refine acall_ref [0] (r_swapRange Pre' U1 U2 Y' Post' N Pre'.length m Y'.length (by simp; omega) hN' rfl hU1.symm rfl (by omega) f) (by first | rfl | simp [renL, V.ren, frρ, renL_ds]) (by simp) rfl (by simp) (by simp) (by intro j hj; match j, hj with | 0, _ => exact ⟨by simp [hget], rfl⟩) ?_
    try simp (maxSteps := 2000000) -implicitDefEqProofs only [zz, evop, ev, tget, tput, ok, V.isUndef, intBin, Ch.on, hput, ↓reduceIte, Nat.reduceLT, Nat.reduceEqDiff, nilTest, Blk.ren, V.ren, renL, frameH, putL]
    simp (maxSteps := 2000000) -implicitDefEqProofs only [hwc]
    have e9 : Pre' ++ (Y' ++ (U2 ++ (U1 ++ Post'))) = (Pre' ++ Y') ++ (U2 ++ (U1 ++ Post')) := by simp
    rw [e9]
    refine ⟨(Pre' ++ Y', U2, U1, Post'), ⟨by simp; omega, by simp only; omega, by simp only; omega, by simp only; rw [← h4]; simp⟩, by simp; omega, Weak.trimsM 1 (by simp) rfl (by simp [tget, V.lower, lowerL, hU1]) (by simp [Blk.lower])⟩

end Go.Proofs.YtjhfpabldidlgaaGreat.AM

/- Merges of sorted lists; a stable sort's result is one list. -/
set_option linter.all false
namespace Go.Proofs.YtjhfpabldidlgaaGreat.AM
open Go

section
variable {α : Type} {lt : α → α → Bool}

def mg (lt : α → α → Bool) (A B : List α) : List α := List.merge A B (fun x y => !lt y x)
theorem mg_nil (B : List α) : mg lt [] B = B := by simp [mg, List.merge]
theorem mg_nil' (A : List α) : mg lt A [] = A := by cases A <;> simp [mg, List.merge]
theorem mg_cons (a : α) (A : List α) (b : α) (B : List α) : mg lt (a :: A) (b :: B) = if lt b a = false then a :: mg lt A (b :: B) else b :: mg lt (a :: A) B := by
  simp only [mg]
  rw [List.merge]
  cases lt b a <;> simp
theorem mg_len : ∀ (A B : List α), (mg lt A B).length = A.length + B.length
  | [], B => by rw [mg_nil]; simp
  | a :: A, [] => by rw [mg_nil']; simp
  | a :: A, b :: B => by
    rw [mg_cons]
    split
    · simp [mg_len A (b :: B)]; omega
    · simp [mg_len (a :: A) B]; omega

theorem mg_split : ∀ (A1 B1 : List α) {A2 B2 : List α}, (∀ x ∈ A1, ∀ y ∈ B2, lt y x = false) → (∀ y ∈ B1, ∀ x ∈ A2, lt y x = true) → mg lt (A1 ++ A2) (B1 ++ B2) = mg lt A1 B1 ++ mg lt A2 B2
  | [], [], A2, B2, _, _ => by simp [mg_nil]
  | [], b :: B1, A2, B2, h1, h2 => by
    have ih := mg_split [] B1 (A2 := A2) (B2 := B2) (by simp) (fun y hy => h2 y (by simp [hy]))
    rw [mg_nil, List.nil_append] at *
    cases A2 with
    | nil => rw [mg_nil, mg_nil]
    | cons x A2 =>
      rw [List.cons_append, mg_cons, if_neg (by rw [h2 b (by simp) x (by simp)]; simp), ih]; rfl
  | a :: A1, [], A2, B2, h1, h2 => by
    have ih := mg_split A1 [] (A2 := A2) (B2 := B2) (fun x hx => h1 x (by simp [hx])) (by simp)
    rw [mg_nil', List.nil_append] at *
    cases B2 with
    | nil => rw [mg_nil', mg_nil']
    | cons y B2 =>
      rw [List.cons_append, mg_cons, if_pos (h1 a (by simp) y (by simp)), ih]; rfl
  | a :: A1, b :: B1, A2, B2, h1, h2 => by
    rw [List.cons_append, List.cons_append, mg_cons, mg_cons]
    split
    · have := mg_split A1 (b :: B1) (A2 := A2) (B2 := B2) (fun x hx => h1 x (by simp [hx])) h2
      rw [← List.cons_append, this]; rfl
    · have := mg_split (a :: A1) B1 (A2 := A2) (B2 := B2) h1 (fun y hy => h2 y (by simp [hy]))
      rw [← List.cons_append, this]; rfl

theorem mg_one {x : α} {B1 B2 : List α} (h1 : ∀ y ∈ B1, lt y x = true) (h2 : ∀ y ∈ B2, lt y x = false) : mg lt [x] (B1 ++ B2) = B1 ++ x :: B2 := by
  have := mg_split [] B1 (A2 := [x]) (B2 := B2) (lt := lt) (by simp) (fun y hy z hz => by simp at hz; subst hz; exact h1 y hy)
  rw [List.nil_append, mg_nil] at this
  rw [this]
  have := mg_split [x] [] (A2 := []) (B2 := B2) (lt := lt) (fun z hz y hy => by simp at hz; subst hz; exact h2 y hy) (by simp)
  rw [List.append_nil, List.nil_append, mg_nil', mg_nil] at this
  rw [this]; rfl

theorem mg_one' {y : α} {A1 A2 : List α} (h1 : ∀ x ∈ A1, lt y x = false) (h2 : ∀ x ∈ A2, lt y x = true) : mg lt (A1 ++ A2) [y] = A1 ++ y :: A2 := by
  have := mg_split A1 [] (A2 := A2) (B2 := [y]) (lt := lt) (fun x hx z hz => by simp at hz; subst hz; exact h1 x hx) (by simp)
  rw [List.nil_append, mg_nil'] at this
  rw [this]
  have := mg_split [] [y] (A2 := A2) (B2 := []) (lt := lt) (by simp) (fun z hz x hx => by simp at hz; subst hz; exact h2 x hx)
  rw [List.append_nil, List.nil_append, mg_nil', mg_nil] at this
  rw [this]; rfl

/-- No later one is less than an earlier one. -/
def Srt (lt : α → α → Bool) (l : List α) : Prop := ∀ (i j : Nat) (x y : α), i < j → l[i]? = some x → l[j]? = some y → lt y x = false

theorem Srt.take {l : List α} (h : Srt lt l) (n : Nat) : Srt lt (l.take n) := fun i j x y hij hx hy => by
  rw [List.getElem?_take] at hx hy
  split at hx
  · split at hy
    · exact h i j x y hij hx hy
    · cases hy
  · cases hx
theorem Srt.drop {l : List α} (h : Srt lt l) (n : Nat) : Srt lt (l.drop n) := fun i j x y hij hx hy => by
  rw [List.getElem?_drop] at hx hy
  exact h (n + i) (n + j) x y (by omega) hx hy

/-- What the search for the cut has found. A's first i, B's first j; i + j is fixed. -/
theorem cut_ok (hnt : ∀ x y z, lt x y = false → lt y z = false → lt x z = false) (hir : ∀ x, lt x x = false) {A B : List α} (hA : Srt lt A) (hB : Srt lt B) {i j : Nat}
    (hi : i ≤ A.length) (hj : j ≤ B.length) (h1 : 0 < i → j < B.length → ∀ x y, A[i - 1]? = some x → B[j]? = some y → lt y x = false)
    (h2 : i < A.length → 0 < j → ∀ x y, A[i]? = some x → B[j - 1]? = some y → lt y x = true) :
    (∀ x ∈ A.take i, ∀ y ∈ B.drop j, lt y x = false) ∧ (∀ y ∈ B.take j, ∀ x ∈ A.drop i, lt y x = true) := by
  have le' : ∀ {l : List α}, Srt lt l → ∀ {p q : Nat} {x y : α}, p ≤ q → l[p]? = some x → l[q]? = some y → lt y x = false := by
    intro l hl p q x y hpq hx hy
    rcases Nat.lt_or_ge p q with h | h
    · exact hl p q x y h hx hy
    · obtain rfl : p = q := by omega
      rw [hx] at hy; cases hy; exact hir x
  constructor
  · intro x hx y hy
    obtain ⟨p, hp⟩ := List.getElem?_of_mem hx
    obtain ⟨q, hq⟩ := List.getElem?_of_mem hy
    rw [List.getElem?_take] at hp
    rw [List.getElem?_drop] at hq
    split at hp
    · rename_i hpi
      have hjl : j + q < B.length := (List.getElem?_eq_some_iff.1 hq).1
      have hpl : p < A.length := (List.getElem?_eq_some_iff.1 hp).1
      have e1 : A[i - 1]? = some (A[i - 1]'(by omega)) := List.getElem?_eq_getElem (by omega)
      have e2 : B[j]? = some (B[j]'(by omega)) := List.getElem?_eq_getElem (by omega)
      have := h1 (by omega) (by omega) _ _ e1 e2
      exact hnt _ _ _ (hnt _ _ _ (le' hB (by omega) e2 hq) this) (le' hA (by omega) hp e1)
    · cases hp
  · intro y hy x hx
    obtain ⟨p, hp⟩ := List.getElem?_of_mem hx
    obtain ⟨q, hq⟩ := List.getElem?_of_mem hy
    rw [List.getElem?_drop] at hp
    rw [List.getElem?_take] at hq
    split at hq
    · have hil : i + p < A.length := (List.getElem?_eq_some_iff.1 hp).1
      have hql : q < B.length := (List.getElem?_eq_some_iff.1 hq).1
      have e1 : A[i]? = some (A[i]'(by omega)) := List.getElem?_eq_getElem (by omega)
      have e2 : B[j - 1]? = some (B[j - 1]'(by omega)) := List.getElem?_eq_getElem (by omega)
      have := h2 (by omega) (by omega) _ _ e1 e2
      cases h : lt y x with
      | true => rfl
      | false =>
        have h3 := hnt _ _ _ (hnt _ _ _ (le' hB (by omega) hq e2) h) (le' hA (by omega) e1 hp)
        rw [h3] at this; cases this
    · cases hq

end
end Go.Proofs.YtjhfpabldidlgaaGreat.AM

/- symMerge. -/
set_option linter.all false
set_option maxRecDepth 100000
set_option maxHeartbeats 4000000
namespace Go.Proofs.YtjhfpabldidlgaaGreat.AM
open Go Go.RowKit

theorem half_u (x : Nat) (h : x ≤ 4000000) : IntKind.i64.wrap (IntKind.u64.wrap (x : Int) / 2 ^ 1) = ((x / 2 : Nat) : Int) := by
  have h1 : IntKind.u64.wrap (x : Int) = (x : Int) := by rw [IntKind.wrap_u64]; omega
  rw [h1]
  have h2 : ((2 : Int) ^ 1) = 2 := rfl
  rw [h2, wrap_in (by omega)]; omega

theorem low_of {c : Int × Int → Int × Int → Int} (hnt : ∀ x y z, decide (c x y < 0) = false → decide (c y z < 0) = false → decide (c x z < 0) = false) {B : List (Int × Int)} (hS : Srt (fun x y => decide (c x y < 0)) B) {k h : Nat} {x y z : Int × Int} (hk : k ≤ h) (hz : B[k]? = some z) (hy : B[h]? = some y) (hcy : c y x < 0) : c z x < 0 := by
  rcases Nat.lt_or_ge k h with hlt | hge
  · have h1 := hS k h z y hlt hz hy
    cases hd : decide (c z x < 0) with
    | true => simpa using hd
    | false => have := hnt y z x h1 hd; simp at this; omega
  · obtain rfl : k = h := by omega
    rw [hz] at hy; cases hy; exact hcy
theorem high_of {c : Int × Int → Int × Int → Int} (hnt : ∀ x y z, decide (c x y < 0) = false → decide (c y z < 0) = false → decide (c x z < 0) = false) {B : List (Int × Int)} (hS : Srt (fun x y => decide (c x y < 0)) B) {k h : Nat} {x y z : Int × Int} (hk : h ≤ k) (hz : B[k]? = some z) (hy : B[h]? = some y) (hcy : ¬ c y x < 0) : ¬ c z x < 0 := by
  rcases Nat.lt_or_ge h k with hlt | hge
  · have h1 := hS h k y z hlt hy hz
    have := hnt z y x h1 (by simpa using hcy)
    simpa using this
  · obtain rfl : k = h := by omega
    rw [hz] at hy; cases hy; exact hcy

section
variable (c : Int × Int → Int × Int → Int) (f : Nat) (hc : ∀ x y, CSpec Tryz.prog f [dW x, dW y] (.int .i64 (c x y)))
include hc

/-- One on the left. -/
theorem r_sym_left (x : Int × Int) (Pre B Post : List (Int × Int)) (N a m b : Nat) (hN : (Pre ++ (x :: (B ++ Post))).length = N) (hN' : N ≤ 1000000) (ha : a = Pre.length) (hm : m = a + 1) (hb : b = m + B.length) (hB : 0 < B.length)
    (hnt : ∀ x y z, decide (c x y < 0) = false → decide (c y z < 0) = false → decide (c x z < 0) = false) (hS : Srt (fun x y => decide (c x y < 0)) B) :
    RSpec Tryz.prog 220 [.own 0 0 N, .d (.int .i64 a), .d (.int .i64 m), .d (.int .i64 b), .func (f, 0) []] [.dat false 2 ((Pre ++ (x :: (B ++ Post))).map dW)] (.tuple [])
      [.dat false 2 ((Pre ++ (mg (fun x y => decide (c x y < 0)) [x] B ++ Post)).map dW)] := by
  refine RSpec.of_awp envOf_ok hmix Tryz.func220 rfl (fun args w => Tryz.call220 args w) (by simp [Tryz.f220]) ?_
  simp only [Tryz.f220]
  simp (maxSteps := 2000000) -implicitDefEqProofs only [zz, zE, evop, ev, ofVal, tget, tput, ok, V.isUndef, intBin, Ch.on, told, ↓reduceIte, reduceCtorEq, Nat.reduceLT, Nat.reduceEqDiff, Nat.reduceAdd, Int.reduceToNat, nilTest, initV]
  simp only [List.length_append, List.length_cons] at hN
  have hw1 : IntKind.i64.wrap ((m : Int) - (a : Int)) = 1 := by rw [wrap_in (by omega)]; omega
  have e1 : ((1 : Int) == 1) = true := rfl
  simp (maxSteps := 2000000) -implicitDefEqProofs only [zz, ↓reduceIte, hw1]
  refine wloop_ind (σ := Nat × Nat) (fun s => s.2 - s.1) (fun s => [(10, .d (.int .i64 ((m + s.1 : Nat) : Int))), (11, .d (.int .i64 ((m + s.2 : Nat) : Int))), (0, .own 0 0 N), (1, .d (.int .i64 a)), (4, .func (f, 0) [])])
    (fun s => [.dat false 2 ((Pre ++ (x :: (B ++ Post))).map dW)]) (fun s => s.1 ≤ s.2 ∧ s.2 ≤ B.length ∧ (∀ k y, k < s.1 → B[k]? = some y → c y x < 0) ∧ (∀ k y, s.2 ≤ k → B[k]? = some y → ¬ c y x < 0)) (0, B.length) ⟨Nat.zero_le _, Nat.le_refl _, fun k y hk => by simp at hk, fun k y hk hy => by have := (List.getElem?_eq_some_iff.1 hy).1; simp at hk; omega⟩ (Weak.sub (by simp [tget]; omega)) ?_
  rintro ⟨i, j⟩ ⟨hij, hj, hlo, hhi⟩
  simp only at hij hj hlo hhi
  rcases Nat.lt_or_ge i j with hlt | hge
  · have h' : (((m + i : Nat) : Int) < ((m + j : Nat) : Int)) := by omega
    have hws : IntKind.i64.wrap (((m + i : Nat) : Int) + ((m + j : Nat) : Int)) = ((m + i + (m + j) : Nat) : Int) := by rw [wrap_in (by omega)]; omega
    have hwh := half_u (m + i + (m + j)) (by omega)
    obtain ⟨h, hh, hh1, hh2⟩ : ∃ h, (m + i + (m + j)) / 2 = m + h ∧ i ≤ h ∧ h < j := ⟨(m + i + (m + j)) / 2 - m, by omega, by omega, by omega⟩
    rw [hh] at hwh
    have hy : B[h]? = some (B[h]'(by omega)) := List.getElem?_eq_getElem (by omega)
    obtain ⟨y, hy'⟩ : ∃ y, y = B[h]'(by omega) := ⟨_, rfl⟩
    rw [← hy'] at hy
    have gh : (Pre ++ (x :: (B ++ Post)))[m + h]? = some y := by
      rw [List.getElem?_append_right (by omega)]
      have : m + h - Pre.length = h + 1 := by omega
      rw [this, List.getElem?_cons_succ, List.getElem?_append_left (by omega), hy]
    have ga : (Pre ++ (x :: (B ++ Post)))[a]? = some x := by
      rw [List.getElem?_append_right (by omega)]
      have : a - Pre.length = 0 := by omega
      rw [this]; rfl
    have hwi : IntKind.i64.wrap (((m + h : Nat) : Int) + 1) = ((m + (h + 1) : Nat) : Int) := by rw [wrap_in (by omega)]; omega
    simp (maxSteps := 2000000) -implicitDefEqProofs only [zz, zE, evop, ev, ofVal, tget, tput, ok, V.isUndef, intBin, Ch.on, told, ↓reduceIte, Nat.reduceLT, Nat.reduceEqDiff, Int.reduceToNat, nilTest, h', hws, hwh]
    refine ⟨⟨by decide, by decide⟩, ?_⟩
    refine wdraw_plan [⟨[], false, [41, 42, 43, 44, 45, 46, 47, 48], [], false⟩, ⟨[], false, [40, 42, 45, 46, 47, 48], [0], false⟩, ⟨[], false, [40, 41, 45, 46, 47, 48], [0, 1], false⟩, ⟨[1, 2], false, [40, 45, 46, 47, 48], [0], false⟩, ⟨[1, 2, 3], false, [40, 45, 46, 47, 48], [0], false⟩, ⟨[], false, [40, 41, 42, 43, 44, 46], [0, 1, 2, 3, 4], false⟩, ⟨[], false, [40, 41, 42, 43, 44, 45], [0, 1, 2, 3, 4, 5], false⟩, ⟨[5, 6], false, [40, 41, 42, 43, 44], [0, 1, 2, 3, 4], false⟩, ⟨[5, 6, 7], false, [40, 41, 42, 43, 44], [0, 1, 2, 3, 4], false⟩, ⟨[0, 1, 2, 3, 4, 5, 6, 7, 8], true, [], [], false⟩, ⟨[0, 1, 2, 3, 4, 5, 6, 7, 8, 9], true, [], [], false⟩] (by decide) ?_
    simp (maxSteps := 2000000) -implicitDefEqProofs only [zz, zE, evop, ev, ofVal, tget, tput, ok, V.isUndef, calleeOf, withArgs, hget, hput, D.cells, loadD, Blk.width, ↓reduceIte, reduceCtorEq, Nat.reduceLT, Nat.reduceEqDiff, Nat.reduceAdd, Nat.reduceLeDiff, dW, List.getElem?_map, gh, ga, Option.map_some, Int.natCast_nonneg]
    refine ⟨by omega, by omega, ?_⟩
    refine acall_flat (ds := [dW y, dW x]) (by simp only [xports, xport, dW]) (hc y x) rfl ?_
    simp (maxSteps := 2000000) -implicitDefEqProofs only [zz, evop, ev, ofVal, tget, tput, ok, V.isUndef, intBin, Ch.on, told, ↓reduceIte, Nat.reduceLT, Nat.reduceEqDiff, Nat.reduceAdd, nilTest, hwi]
    by_cases hcy : c y x < 0
    · simp (maxSteps := 2000000) -implicitDefEqProofs only [zz, ↓reduceIte, hcy]
      refine ⟨(h + 1, j), ⟨by simp only; omega, hj, fun k z hk hz => low_of hnt hS (h := h) (by simp only at hk; omega) hz hy hcy, hhi⟩, by simp only; omega, Weak.trimsM 1 (by simp) rfl (by simp [tget, V.lower, lowerL]) (by simp [Blk.lower])⟩
    · simp (maxSteps := 2000000) -implicitDefEqProofs only [zz, ↓reduceIte, hcy]
      refine ⟨(i, h), ⟨hh1, by simp only; omega, hlo, fun k z hk hz => high_of hnt hS (h := h) hk hz hy hcy⟩, by simp only; omega, Weak.trimsM 1 (by simp) rfl (by simp [tget, V.lower, lowerL]) (by simp [Blk.lower])⟩
  · obtain rfl : i = j := by omega
    have h' : ¬ (((m + i : Nat) : Int) < ((m + i : Nat) : Int)) := by omega
    simp (maxSteps := 2000000) -implicitDefEqProofs only [zz, evop, ev, tget, tput, ok, V.isUndef, intBin, Ch.on, told, ↓reduceIte, reduceCtorEq, Nat.reduceLT, Nat.reduceEqDiff, nilTest, h']
    have hwp : IntKind.i64.wrap (((m + i : Nat) : Int) - 1) = ((a + i : Nat) : Int) := by rw [wrap_in (by omega)]; omega
    refine wloop_count i (fun p => [(13, .d (.int .i64 ((a + p : Nat) : Int))), (10, .d (.int .i64 ((m + i : Nat) : Int))), (0, .own 0 0 N)])
      (fun p => [.dat false 2 ((Pre ++ (B.take p ++ x :: (B.drop p ++ Post))).map dW)]) (fun p => True) trivial ?_ (fun p hp _ => ?_) (fun _ => ?_)
    · exact Weak.sub (by simp [tget])
    · have h' : (((a + p : Nat) : Int) < ((a + i : Nat) : Int)) := by omega
      have hwn : IntKind.i64.wrap (((a + p : Nat) : Int) + 1) = ((a + (p + 1) : Nat) : Int) := by rw [wrap_in (by omega)]; omega
      obtain ⟨y, hy'⟩ : ∃ y, y = B[p]'(by omega) := ⟨_, rfl⟩
      have hL : Pre ++ (B.take p ++ x :: (B.drop p ++ Post)) = (Pre ++ B.take p) ++ x :: ([] ++ y :: (B.drop (p + 1) ++ Post)) := by
        rw [List.drop_eq_getElem_cons (by omega), ← hy']; simp
      have hL2 : Pre ++ (B.take (p + 1) ++ x :: (B.drop (p + 1) ++ Post)) = (Pre ++ B.take p) ++ y :: ([] ++ x :: (B.drop (p + 1) ++ Post)) := by
        rw [List.take_add_one, List.getElem?_eq_getElem (by omega), ← hy']; simp
      obtain ⟨g1, g2, g3, g4⟩ := two_get (A := Pre ++ B.take p) (B := []) (C := B.drop (p + 1) ++ Post) (u := x) (v := y) (i := a + p) (j := a + (p + 1)) (by simp; omega) (by simp; omega)
      rw [hL, hL2]
      simp (maxSteps := 2000000) -implicitDefEqProofs only [zz, evop, ev, ofVal, tget, tput, ok, V.isUndef, intBin, Ch.on, told, ↓reduceIte, Nat.reduceLT, Nat.reduceEqDiff, nilTest, hwp, h']
      refine wdraw_plan [⟨[], false, [62, 63, 64, 65, 66, 67, 68, 69, 70, 71, 72, 73, 74], [], false⟩, ⟨[], false, [61, 63, 64, 65, 66, 67, 68, 69, 70, 71, 72, 73, 74], [0], false⟩, ⟨[], false, [61, 62, 63, 64, 65, 66, 67, 68, 69, 70, 71, 72, 73, 74, 75, 76], [0, 1], true⟩, ⟨[], false, [61, 62, 63, 64, 65, 66, 67, 68, 69, 70, 71, 72, 73, 74, 75, 76], [0, 1, 2], true⟩, ⟨[3], false, [61, 62, 63, 65, 66, 67, 68, 69, 70, 71, 72, 73, 74, 75, 76], [0, 1, 2], true⟩, ⟨[], false, [61, 62, 63, 64, 65, 67, 68, 71, 72, 73, 74], [0, 1, 2, 3, 4], false⟩, ⟨[], false, [61, 62, 63, 64, 65, 66, 71, 72, 73, 74], [0, 1, 2, 3, 4, 5], false⟩, ⟨[6], false, [61, 62, 63, 64, 65, 66, 71, 72, 73, 74], [0, 1, 2, 3, 4, 5], false⟩, ⟨[5, 6, 7], false, [61, 62, 63, 64, 65, 71, 72, 73, 74], [0, 1, 2, 3, 4], false⟩, ⟨[5, 6, 7, 8], false, [61, 62, 63, 64, 65, 71, 72, 73, 74], [0, 1, 2, 3, 4], false⟩, ⟨[], false, [61, 62, 63, 64, 65, 66, 67, 68, 69, 70, 72], [0, 1, 2, 3, 4, 5, 6, 7, 8, 9], false⟩, ⟨[], false, [61, 62, 63, 64, 65, 66, 67, 68, 69, 70, 71], [0, 1, 2, 3, 4, 5, 6, 7, 8, 9, 10], false⟩, ⟨[10, 11], false, [61, 62, 63, 64, 65, 66, 67, 68, 69, 70], [0, 1, 2, 3, 4, 5, 6, 7, 8, 9], false⟩, ⟨[10, 11, 12], false, [61, 62, 63, 64, 65, 66, 67, 68, 69, 70], [0, 1, 2, 3, 4, 5, 6, 7, 8, 9], false⟩, ⟨[0, 1, 5, 6, 7, 8, 9, 10, 11, 12, 13], false, [63, 64, 65], [2, 3, 4], false⟩, ⟨[0, 1, 5, 6, 7, 8, 9, 10, 11, 12, 13, 14], true, [63, 64, 65], [], false⟩, ⟨[0, 1, 2, 3, 4, 5, 6, 7, 8, 9, 10, 11, 12, 13, 14, 15], true, [], [], false⟩, ⟨[0, 1, 2, 3, 4, 5, 6, 7, 8, 9, 10, 11, 12, 13, 14, 15, 16], true, [], [], false⟩] (by decide) ?_
      rw [List.nil_append] at g1 g2 g3 g4
      rw [List.nil_append] at g4
      simp (maxSteps := 2000000) -implicitDefEqProofs only [zz, zE, evop, ev, ofVal, tget, tput, ok, V.isUndef, intBin, Ch.on, hget, hput, V.cells, D.cells, V.isAgg, V.one, V.clo, clos, loadD, Blk.width, splice, D.over, ↓reduceIte, reduceCtorEq, Nat.reduceLT, Nat.reduceEqDiff, Nat.reduceAdd, Nat.reduceLeDiff, nilTest, dW, hwn, List.getElem?_map, g1, g2, g3, Option.map_some, Int.natCast_nonneg, set_dW', g4]
      refine ⟨by omega, by omega, by omega, by omega, Weak.trimsM 1 (by simp) rfl (by simp [tget, V.lower, lowerL]) (by simp [Blk.lower])⟩
    · have h' : ¬ (((a + i : Nat) : Int) < ((a + i : Nat) : Int)) := by omega
      simp (maxSteps := 2000000) -implicitDefEqProofs only [zz, evop, ev, ofVal, tget, tput, ok, V.isUndef, intBin, Ch.on, told, resOf, resVs, ↓reduceIte, Nat.reduceLT, Nat.reduceEqDiff, nilTest, hwp, h']
      have e : mg (fun x y => decide (c x y < 0)) [x] B = B.take i ++ x :: B.drop i := by
        conv => lhs; rw [← List.take_append_drop i B]
        refine mg_one (fun y hy => ?_) (fun y hy => ?_)
        · obtain ⟨k, hk⟩ := List.getElem?_of_mem hy
          rw [List.getElem?_take] at hk
          split at hk
          · rename_i hki; simpa using hlo k y hki hk
          · cases hk
        · obtain ⟨k, hk⟩ := List.getElem?_of_mem hy
          rw [List.getElem?_drop] at hk
          simpa using hhi (i + k) y (by omega) hk
      rw [e, List.append_assoc, List.cons_append]
      exact Weak.trimsM 1 (by simp) rfl (by simp [tget, V.lower, lowerL]) (by simp [Blk.lower])

/-- One on the right. -/
theorem r_sym_right (y : Int × Int) (Pre A Post : List (Int × Int)) (N a m b : Nat) (hN : (Pre ++ (A ++ (y :: Post))).length = N) (hN' : N ≤ 1000000) (ha : a = Pre.length) (hm : m = a + A.length) (hb : b = m + 1) (hA : 1 < A.length)
    (hnt : ∀ x y z, decide (c x y < 0) = false → decide (c y z < 0) = false → decide (c x z < 0) = false) (hS : Srt (fun x y => decide (c x y < 0)) A) :
    RSpec Tryz.prog 220 [.own 0 0 N, .d (.int .i64 a), .d (.int .i64 m), .d (.int .i64 b), .func (f, 0) []] [.dat false 2 ((Pre ++ (A ++ (y :: Post))).map dW)] (.tuple [])
      [.dat false 2 ((Pre ++ (mg (fun x y => decide (c x y < 0)) A [y] ++ Post)).map dW)] := by
  refine RSpec.of_awp envOf_ok hmix Tryz.func220 rfl (fun args w => Tryz.call220 args w) (by simp [Tryz.f220]) ?_
  simp only [Tryz.f220]
  simp (maxSteps := 2000000) -implicitDefEqProofs only [zz, zE, evop, ev, ofVal, tget, tput, ok, V.isUndef, intBin, Ch.on, told, ↓reduceIte, reduceCtorEq, Nat.reduceLT, Nat.reduceEqDiff, Nat.reduceAdd, Int.reduceToNat, nilTest, initV]
  simp only [List.length_append, List.length_cons] at hN
  have hw1 : IntKind.i64.wrap ((m : Int) - (a : Int)) = (A.length : Int) := by rw [wrap_in (by omega)]; omega
  have hw2 : IntKind.i64.wrap ((b : Int) - (m : Int)) = 1 := by rw [wrap_in (by omega)]; omega
  have e0 : ((A.length : Int) == 1) = false := by rw [beq_eq_false_iff_ne]; omega
  have e1 : ((1 : Int) == 1) = true := rfl
  simp (maxSteps := 2000000) -implicitDefEqProofs only [zz, ↓reduceIte, hw1, hw2, e0]
  refine wloop_ind (σ := Nat × Nat) (fun s => s.2 - s.1) (fun s => [(14, .d (.int .i64 ((a + s.1 : Nat) : Int))), (15, .d (.int .i64 ((a + s.2 : Nat) : Int))), (0, .own 0 0 N), (2, .d (.int .i64 m)), (4, .func (f, 0) [])])
    (fun s => [.dat false 2 ((Pre ++ (A ++ (y :: Post))).map dW)]) (fun s => s.1 ≤ s.2 ∧ s.2 ≤ A.length ∧ (∀ k x, k < s.1 → A[k]? = some x → ¬ c y x < 0) ∧ (∀ k x, s.2 ≤ k → A[k]? = some x → c y x < 0)) (0, A.length) ⟨Nat.zero_le _, Nat.le_refl _, fun k y hk => by simp at hk, fun k y hk hy => by have := (List.getElem?_eq_some_iff.1 hy).1; simp at hk; omega⟩ (Weak.sub (by simp [tget]; omega)) ?_
  rintro ⟨i, j⟩ ⟨hij, hj, hlo, hhi⟩
  simp only at hij hj hlo hhi
  rcases Nat.lt_or_ge i j with hlt | hge
  · have h' : (((a + i : Nat) : Int) < ((a + j : Nat) : Int)) := by omega
    have hws : IntKind.i64.wrap (((a + i : Nat) : Int) + ((a + j : Nat) : Int)) = ((a + i + (a + j) : Nat) : Int) := by rw [wrap_in (by omega)]; omega
    have hwh := half_u (a + i + (a + j)) (by omega)
    obtain ⟨h, hh, hh1, hh2⟩ : ∃ h, (a + i + (a + j)) / 2 = a + h ∧ i ≤ h ∧ h < j := ⟨(a + i + (a + j)) / 2 - a, by omega, by omega, by omega⟩
    rw [hh] at hwh
    have hx : A[h]? = some (A[h]'(by omega)) := List.getElem?_eq_getElem (by omega)
    obtain ⟨x, hx'⟩ : ∃ x, x = A[h]'(by omega) := ⟨_, rfl⟩
    rw [← hx'] at hx
    have gh : (Pre ++ (A ++ (y :: Post)))[a + h]? = some x := by
      rw [List.getElem?_append_right (by omega)]
      have : a + h - Pre.length = h := by omega
      rw [this, List.getElem?_append_left (by omega), hx]
    have gm : (Pre ++ (A ++ (y :: Post)))[m]? = some y := by
      rw [List.getElem?_append_right (by omega), List.getElem?_append_right (by omega)]
      have : m - Pre.length - A.length = 0 := by omega
      rw [this]; rfl
    have hwi : IntKind.i64.wrap (((a + h : Nat) : Int) + 1) = ((a + (h + 1) : Nat) : Int) := by rw [wrap_in (by omega)]; omega
    simp (maxSteps := 2000000) -implicitDefEqProofs only [zz, zE, evop, ev, ofVal, tget, tput, ok, V.isUndef, intBin, Ch.on, told, ↓reduceIte, Nat.reduceLT, Nat.reduceEqDiff, Int.reduceToNat, nilTest, h', hws, hwh]
    refine ⟨⟨by decide, by decide⟩, ?_⟩
    refine wdraw_plan [⟨[], false, [93, 94, 95, 96, 97, 98, 99, 100], [], false⟩, ⟨[], false, [92, 94, 97, 98, 99, 100], [0], false⟩, ⟨[], false, [92, 93, 97, 98, 99, 100], [0, 1], false⟩, ⟨[1, 2], false, [92, 97, 98, 99, 100], [0], false⟩, ⟨[1, 2, 3], false, [92, 97, 98, 99, 100], [0], false⟩, ⟨[], false, [92, 93, 94, 95, 96, 98], [0, 1, 2, 3, 4], false⟩, ⟨[], false, [92, 93, 94, 95, 96, 97], [0, 1, 2, 3, 4, 5], false⟩, ⟨[5, 6], false, [92, 93, 94, 95, 96], [0, 1, 2, 3, 4], false⟩, ⟨[5, 6, 7], false, [92, 93, 94, 95, 96], [0, 1, 2, 3, 4], false⟩, ⟨[0, 1, 2, 3, 4, 5, 6, 7, 8], true, [], [], false⟩, ⟨[0, 1, 2, 3, 4, 5, 6, 7, 8, 9], true, [], [], false⟩, ⟨[0, 1, 2, 3, 4, 5, 6, 7, 8, 9, 10], true, [], [], false⟩] (by decide) ?_
    simp (maxSteps := 2000000) -implicitDefEqProofs only [zz, zE, evop, ev, ofVal, tget, tput, ok, V.isUndef, calleeOf, withArgs, hget, hput, D.cells, loadD, Blk.width, ↓reduceIte, reduceCtorEq, Nat.reduceLT, Nat.reduceEqDiff, Nat.reduceAdd, Nat.reduceLeDiff, dW, List.getElem?_map, gh, gm, Option.map_some, Int.natCast_nonneg]
    refine ⟨by omega, by omega, ?_⟩
    refine acall_flat (ds := [dW y, dW x]) (by simp only [xports, xport, dW]) (hc y x) rfl ?_
    simp (maxSteps := 2000000) -implicitDefEqProofs only [zz, evop, ev, ofVal, tget, tput, ok, V.isUndef, intBin, Ch.on, told, ↓reduceIte, Nat.reduceLT, Nat.reduceEqDiff, Nat.reduceAdd, nilTest, hwi]
    by_cases hcy : c y x < 0
    · simp (maxSteps := 2000000) -implicitDefEqProofs only [zz, ↓reduceIte, hcy]
      refine ⟨(i, h), ⟨hh1, by simp only; omega, hlo, fun k z hk hz => ?_⟩, by simp only; omega, Weak.trimsM 1 (by simp) rfl (by simp [tget, V.lower, lowerL]) (by simp [Blk.lower])⟩
      rcases Nat.lt_or_ge h k with hlt' | hge'
      · have h1 := hS h k x z hlt' hx hz
        cases hd : decide (c y z < 0) with
        | true => simpa using hd
        | false => have := hnt y z x hd h1; simp at this; omega
      · simp only at hk
        obtain rfl : k = h := by omega
        rw [hx] at hz; cases hz; exact hcy
    · simp (maxSteps := 2000000) -implicitDefEqProofs only [zz, ↓reduceIte, hcy]
      refine ⟨(h + 1, j), ⟨by simp only; omega, hj, fun k z hk hz => ?_, hhi⟩, by simp only; omega, Weak.trimsM 1 (by simp) rfl (by simp [tget, V.lower, lowerL]) (by simp [Blk.lower])⟩
      rcases Nat.lt_or_ge k h with hlt' | hge'
      · have h1 := hS k h z x hlt' hz hx
        have := hnt y x z (by simpa using hcy) h1
        simpa using this
      · simp only at hk
        obtain rfl : k = h := by omega
        rw [hx] at hz; cases hz; exact hcy
  · obtain rfl : i = j := by omega
    have h' : ¬ (((a + i : Nat) : Int) < ((a + i : Nat) : Int)) := by omega
    simp (maxSteps := 2000000) -implicitDefEqProofs only [zz, evop, ev, tget, tput, ok, V.isUndef, intBin, Ch.on, told, ↓reduceIte, reduceCtorEq, Nat.reduceLT, Nat.reduceEqDiff, nilTest, h']
    refine wloop_count (A.length - i) (fun p => [(17, .d (.int .i64 ((m - p : Nat) : Int))), (14, .d (.int .i64 ((a + i : Nat) : Int))), (0, .own 0 0 N)])
      (fun p => [.dat false 2 ((Pre ++ (A.take (A.length - p) ++ y :: (A.drop (A.length - p) ++ Post))).map dW)]) (fun p => True) trivial ?_ (fun p hp _ => ?_) (fun _ => ?_)
    · simp only [Nat.sub_zero, List.take_length, List.drop_length, List.nil_append]
      exact Weak.sub (by simp [tget])
    · have h' : (((a + i : Nat) : Int) < ((m - p : Nat) : Int)) := by omega
      have hwn : IntKind.i64.wrap (((m - p : Nat) : Int) - 1) = ((m - (p + 1) : Nat) : Int) := by rw [wrap_in (by omega)]; omega
      obtain ⟨q, hq⟩ : ∃ q, A.length - p = q + 1 := ⟨A.length - p - 1, by omega⟩
      have hq2 : A.length - (p + 1) = q := by omega
      obtain ⟨x, hx'⟩ : ∃ x, x = A[q]'(by omega) := ⟨_, rfl⟩
      have hL : Pre ++ (A.take (A.length - p) ++ y :: (A.drop (A.length - p) ++ Post)) = (Pre ++ A.take q) ++ x :: ([] ++ y :: (A.drop (q + 1) ++ Post)) := by
        rw [hq, List.take_add_one, List.getElem?_eq_getElem (by omega), ← hx']; simp
      have hL2 : Pre ++ (A.take (A.length - (p + 1)) ++ y :: (A.drop (A.length - (p + 1)) ++ Post)) = (Pre ++ A.take q) ++ y :: ([] ++ x :: (A.drop (q + 1) ++ Post)) := by
        rw [hq2, List.drop_eq_getElem_cons (by omega), ← hx']; simp
      obtain ⟨g1, g2, g3, g4⟩ := two_get (A := Pre ++ A.take q) (B := []) (C := A.drop (q + 1) ++ Post) (u := x) (v := y) (i := m - (p + 1)) (j := m - p) (by simp; omega) (by simp; omega)
      rw [hL, hL2]
      rw [List.nil_append] at g1 g2 g3 g4
      rw [List.nil_append] at g4
      have g5 : (((Pre ++ A.take q) ++ x :: (y :: (A.drop (q + 1) ++ Post))).set (m - p) x)[m - (p + 1)]? = some x := by rw [List.getElem?_set_ne (by omega)]; exact g1
      rw [List.set_comm _ _ (by omega)] at g4
      simp (maxSteps := 2000000) -implicitDefEqProofs only [zz, evop, ev, tget, tput, ok, V.isUndef, intBin, Ch.on, told, ↓reduceIte, Nat.reduceLT, Nat.reduceEqDiff, nilTest, h']
      refine wdraw_plan [⟨[], false, [114, 115, 116, 117, 118, 119, 120, 121, 122, 123, 124, 125, 126], [], false⟩, ⟨[], false, [113, 115, 116, 117, 118, 119, 120, 121, 122, 123, 124, 125, 126], [0], false⟩, ⟨[], false, [113, 114, 115, 116, 117, 118, 119, 120, 121, 122, 123, 124, 125, 126, 127, 128], [0, 1], true⟩, ⟨[], false, [113, 114, 115, 116, 117, 118, 119, 120, 121, 122, 123, 124, 125, 126, 127, 128], [0, 1, 2], true⟩, ⟨[3], false, [113, 114, 115, 117, 118, 119, 120, 121, 122, 123, 124, 125, 126, 127, 128], [0, 1, 2], true⟩, ⟨[], false, [113, 114, 115, 116, 117, 119, 120, 123, 124, 125, 126], [0, 1, 2, 3, 4], false⟩, ⟨[], false, [113, 114, 115, 116, 117, 118, 123, 124, 125, 126], [0, 1, 2, 3, 4, 5], false⟩, ⟨[6], false, [113, 114, 115, 116, 117, 118, 123, 124, 125, 126], [0, 1, 2, 3, 4, 5], false⟩, ⟨[5, 6, 7], false, [113, 114, 115, 116, 117, 123, 124, 125, 126], [0, 1, 2, 3, 4], false⟩, ⟨[5, 6, 7, 8], false, [113, 114, 115, 116, 117, 123, 124, 125, 126], [0, 1, 2, 3, 4], false⟩, ⟨[], false, [113, 114, 115, 116, 117, 118, 119, 120, 121, 122, 124], [0, 1, 2, 3, 4, 5, 6, 7, 8, 9], false⟩, ⟨[], false, [113, 114, 115, 116, 117, 118, 119, 120, 121, 122, 123], [0, 1, 2, 3, 4, 5, 6, 7, 8, 9, 10], false⟩, ⟨[10, 11], false, [113, 114, 115, 116, 117, 118, 119, 120, 121, 122], [0, 1, 2, 3, 4, 5, 6, 7, 8, 9], false⟩, ⟨[10, 11, 12], false, [113, 114, 115, 116, 117, 118, 119, 120, 121, 122], [0, 1, 2, 3, 4, 5, 6, 7, 8, 9], false⟩, ⟨[0, 1, 5, 6, 7, 8, 9, 10, 11, 12, 13], false, [115, 116, 117], [2, 3, 4], false⟩, ⟨[0, 1, 5, 6, 7, 8, 9, 10, 11, 12, 13, 14], true, [115, 116, 117], [], false⟩, ⟨[0, 1, 2, 3, 4, 5, 6, 7, 8, 9, 10, 11, 12, 13, 14, 15], true, [], [], false⟩, ⟨[0, 1, 2, 3, 4, 5, 6, 7, 8, 9, 10, 11, 12, 13, 14, 15, 16], true, [], [], false⟩] (by decide) ?_
      simp (maxSteps := 2000000) -implicitDefEqProofs only [zz, zE, evop, ev, ofVal, tget, tput, ok, V.isUndef, intBin, Ch.on, hget, hput, V.cells, D.cells, V.isAgg, V.one, V.clo, clos, loadD, Blk.width, splice, D.over, ↓reduceIte, reduceCtorEq, Nat.reduceLT, Nat.reduceEqDiff, Nat.reduceAdd, Nat.reduceLeDiff, nilTest, dW, hwn, List.getElem?_map, g1, g2, g5, Option.map_some, Int.natCast_nonneg, set_dW', g4]
      refine ⟨by omega, by omega, by omega, by omega, Weak.trimsM 1 (by simp) rfl (by simp [tget, V.lower, lowerL]) (by simp [Blk.lower])⟩
    · have em : m - (A.length - i) = a + i := by omega
      have h' : ¬ (((a + i : Nat) : Int) < ((m - (A.length - i) : Nat) : Int)) := by omega
      simp (maxSteps := 2000000) -implicitDefEqProofs only [zz, evop, ev, tget, tput, ok, V.isUndef, intBin, Ch.on, told, resOf, resVs, ↓reduceIte, Nat.reduceLT, Nat.reduceEqDiff, nilTest, h']
      have ei : A.length - (A.length - i) = i := by omega
      have e : mg (fun x y => decide (c x y < 0)) A [y] = A.take i ++ y :: A.drop i := by
        conv => lhs; rw [← List.take_append_drop i A]
        refine mg_one' (fun x hx => ?_) (fun x hx => ?_)
        · obtain ⟨k, hk⟩ := List.getElem?_of_mem hx
          rw [List.getElem?_take] at hk
          split at hk
          · rename_i hki; simpa using hlo k x hki hk
          · cases hk
        · obtain ⟨k, hk⟩ := List.getElem?_of_mem hx
          rw [List.getElem?_drop] at hk
          simpa using hhi (i + k) x (by omega) hk
      rw [e, ei, List.append_assoc, List.cons_append]
      exact Weak.trimsM 1 (by simp) rfl (by simp [tget, V.lower, lowerL]) (by simp [Blk.lower])
end

end Go.Proofs.YtjhfpabldidlgaaGreat.AM

/- symMerge, whole: from its end to its beginning. -/
set_option linter.all false
set_option maxRecDepth 100000
set_option maxHeartbeats 4000000
namespace Go.Proofs.YtjhfpabldidlgaaGreat.AM
open Go Go.RowKit

theorem up_of {c : Int × Int → Int × Int → Int} (hnt : ∀ x y z, decide (c x y < 0) = false → decide (c y z < 0) = false → decide (c x z < 0) = false) {A : List (Int × Int)} (hS : Srt (fun x y => decide (c x y < 0)) A) {i j : Nat} {x y z : Int × Int} (hk : i ≤ j) (hx : A[i]? = some x) (hz : A[j]? = some z) (hcy : c y x < 0) : c y z < 0 := by
  rcases Nat.lt_or_ge i j with hlt | hge
  · have h1 := hS i j x z hlt hx hz
    cases hd : decide (c y z < 0) with
    | true => simpa using hd
    | false => have := hnt y z x hd h1; simp at this; omega
  · obtain rfl : i = j := by omega
    rw [hx] at hz; cases hz; exact hcy
theorem dn_of {c : Int × Int → Int × Int → Int} (hnt : ∀ x y z, decide (c x y < 0) = false → decide (c y z < 0) = false → decide (c x z < 0) = false) {A : List (Int × Int)} (hS : Srt (fun x y => decide (c x y < 0)) A) {i j : Nat} {x y z : Int × Int} (hk : j ≤ i) (hx : A[i]? = some x) (hz : A[j]? = some z) (hcy : ¬ c y x < 0) : ¬ c y z < 0 := by
  rcases Nat.lt_or_ge j i with hlt | hge
  · have h1 := hS j i z x hlt hz hx
    have := hnt y x z (by simpa using hcy) h1
    simpa using this
  · obtain rfl : i = j := by omega
    rw [hx] at hz; cases hz; exact hcy


noncomputable def symC : Code := Tryz.f220.body.getD .skip
abbrev lts (c : Int × Int → Int × Int → Int) (x y : Int × Int) : Bool := decide (c x y < 0)
abbrev symR (f N a m b : Nat) (L L' : List (Int × Int)) : Prop := RSpec Tryz.prog 220 [.own 0 0 N, .d (.int .i64 a), .d (.int .i64 m), .d (.int .i64 b), .func (f, 0) []] [.dat false 2 (L.map dW)] (.tuple []) [.dat false 2 (L'.map dW)]

theorem sym43 (lt : Int × Int → Int × Int → Bool) (f : Nat) (P2 A2 B2 Post : List (Int × Int)) (N mid e b : Nat) (he : e = mid + A2.length) (hb : b = e + B2.length)
    (ih : 0 < A2.length → 0 < B2.length → symR f N mid e b (P2 ++ (A2 ++ (B2 ++ Post))) (P2 ++ (mg lt A2 B2 ++ Post))) :
    Snd Tryz.prog (envOf Tryz.prog) 220 1 (tlN 11 symC) [(18, .d (.int .i64 mid)), (24, .d (.int .i64 e)), (3, .d (.int .i64 b)), (0, .own 0 0 N), (4, .func (f, 0) [])] [.dat false 2 ((P2 ++ (A2 ++ (B2 ++ Post))).map dW)]
      (FinR (envOf Tryz.prog) 1 [] (.tuple []) [.dat false 2 ((P2 ++ (mg lt A2 B2 ++ Post)).map dW)]) := by
  refine Snd.of_awp envOf_ok hmix ?_
  simp only [symC, Tryz.f220, Option.getD_some, tlN]
  by_cases q5 : ((mid : Int) < (e : Int))
  · by_cases q6 : ((e : Int) < (b : Int))
    · simp (maxSteps := 2000000) -implicitDefEqProofs only [zz, evop, ev, tget, tput, ok, V.isUndef, intBin, guardOf, Ch.on, calleeOf, withArgs, told, ↓reduceIte, reduceCtorEq, Nat.reduceLT, Nat.reduceEqDiff, nilTest, q5, q6]
      refine acall_ref [0] (ih (by omega) (by omega)) (by first | rfl | simp [renL, V.ren, frρ, renL_ds]) (by simp) rfl (by simp) (by simp) (by intro j hj; match j, hj with | 0, _ => exact ⟨by simp [hget], rfl⟩) ?_
      try simp (maxSteps := 2000000) -implicitDefEqProofs only [zz, tput, hput, resOf, resVs, ↓reduceIte, Nat.reduceLT, Blk.ren, V.ren, renL, frameH, putL]
      exact Weak.trimsM 1 (by simp) rfl (by simp [tget, V.lower, lowerL]) (by simp [Blk.lower])
    · have eB : B2 = [] := List.length_eq_zero_iff.1 (by omega)
      subst eB
      rw [mg_nil', List.nil_append]
      simp (maxSteps := 2000000) -implicitDefEqProofs only [zz, evop, ev, tget, tput, ok, V.isUndef, intBin, guardOf, Ch.on, told, resOf, resVs, ↓reduceIte, Nat.reduceLT, Nat.reduceEqDiff, nilTest, q5, q6]
      exact Weak.trimsM 1 (by simp) rfl (by simp [tget, V.lower, lowerL]) (by simp [Blk.lower])
  · have eA : A2 = [] := List.length_eq_zero_iff.1 (by omega)
    subst eA
    rw [mg_nil, List.nil_append]
    simp (maxSteps := 2000000) -implicitDefEqProofs only [zz, evop, ev, ofVal, tget, tput, ok, V.isUndef, intBin, guardOf, Ch.on, told, resOf, resVs, ↓reduceIte, Nat.reduceLT, Nat.reduceEqDiff, nilTest, q5]
    exact Weak.trimsM 1 (by simp) rfl (by simp [tget, V.lower, lowerL]) (by simp [Blk.lower])


theorem sym41 (lt : Int × Int → Int × Int → Bool) (f : Nat) (Pre A1 B1 A2 B2 Post : List (Int × Int)) (N a s mid e b : Nat) (hs : s = a + A1.length) (hm : mid = s + B1.length) (he : e = mid + A2.length) (hb : b = e + B2.length)
    (ih1 : 0 < A1.length → 0 < B1.length → symR f N a s mid (Pre ++ (A1 ++ (B1 ++ (A2 ++ (B2 ++ Post))))) (Pre ++ (mg lt A1 B1 ++ (A2 ++ (B2 ++ Post)))))
    (ih2 : 0 < A2.length → 0 < B2.length → symR f N mid e b ((Pre ++ mg lt A1 B1) ++ (A2 ++ (B2 ++ Post))) ((Pre ++ mg lt A1 B1) ++ (mg lt A2 B2 ++ Post))) :
    Snd Tryz.prog (envOf Tryz.prog) 220 1 (tlN 10 symC) [(1, .d (.int .i64 a)), (20, .d (.int .i64 s)), (18, .d (.int .i64 mid)), (24, .d (.int .i64 e)), (3, .d (.int .i64 b)), (0, .own 0 0 N), (4, .func (f, 0) [])] [.dat false 2 ((Pre ++ (A1 ++ (B1 ++ (A2 ++ (B2 ++ Post))))).map dW)]
      (FinR (envOf Tryz.prog) 1 [] (.tuple []) [.dat false 2 (((Pre ++ mg lt A1 B1) ++ (mg lt A2 B2 ++ Post)).map dW)]) := by
  have tail := sym43 lt f (Pre ++ mg lt A1 B1) A2 B2 Post N mid e b he hb ih2
  simp only [symC, Tryz.f220, Option.getD_some, tlN] at tail ⊢
  refine Snd.upto envOf_ok hmix 1 _ ?_
  simp only [hdN, tlN]
  by_cases q3 : ((a : Int) < (s : Int))
  · by_cases q4 : ((s : Int) < (mid : Int))
    · simp (maxSteps := 2000000) -implicitDefEqProofs only [zz, evop, ev, tget, tput, ok, V.isUndef, intBin, guardOf, Ch.on, calleeOf, withArgs, told, ↓reduceIte, reduceCtorEq, Nat.reduceLT, Nat.reduceEqDiff, nilTest, q3, q4]
      refine acall_ref [0] (ih1 (by omega) (by omega)) (by first | rfl | simp [renL, V.ren, frρ, renL_ds]) (by simp) rfl (by simp) (by simp) (by intro j hj; match j, hj with | 0, _ => exact ⟨by simp [hget], rfl⟩) ?_
      try simp (maxSteps := 2000000) -implicitDefEqProofs only [zz, tput, hput, ↓reduceIte, Nat.reduceLT, Blk.ren, V.ren, renL, frameH, putL, cutK_normal]
      rw [← List.append_assoc Pre (mg lt A1 B1)]
      exact Snd.weak (Weak.trimsM 1 (by simp) rfl (by simp [tget, V.lower, lowerL]) (by simp [Blk.lower])) tail
    · have eB : B1 = [] := List.length_eq_zero_iff.1 (by omega)
      subst eB
      rw [mg_nil'] at tail ⊢
      simp (maxSteps := 2000000) -implicitDefEqProofs only [zz, evop, ev, tget, tput, ok, V.isUndef, intBin, guardOf, Ch.on, told, ↓reduceIte, Nat.reduceLT, Nat.reduceEqDiff, nilTest, cutK_normal, q3, q4]
      rw [← List.append_assoc Pre A1]
      exact Snd.weak (Weak.trimsM 1 (by simp) rfl (by simp [tget, V.lower, lowerL]) (by simp [Blk.lower])) tail
  · have eA : A1 = [] := List.length_eq_zero_iff.1 (by omega)
    subst eA
    rw [mg_nil] at tail ⊢
    simp (maxSteps := 2000000) -implicitDefEqProofs only [zz, evop, ev, ofVal, tget, tput, ok, V.isUndef, intBin, guardOf, Ch.on, told, ↓reduceIte, Nat.reduceLT, Nat.reduceEqDiff, nilTest, cutK_normal, q3]
    rw [← List.append_assoc Pre]
    exact Snd.weak (Weak.trimsM 1 (by simp) rfl (by simp [tget, V.lower, lowerL]) (by simp [Blk.lower])) tail

theorem sym39 (lt : Int × Int → Int × Int → Bool) (f : Nat) (Pre A1 B1 A2 B2 Post : List (Int × Int)) (N a s m mid e b : Nat) (hN : (Pre ++ (A1 ++ (A2 ++ (B1 ++ (B2 ++ Post))))).length = N) (hN' : N ≤ 1000000) (ha : a = Pre.length) (hs : s = a + A1.length) (hmm : m = s + A2.length) (hem : e = m + B1.length) (hm : mid = s + B1.length) (he : e = mid + A2.length) (hb : b = e + B2.length)
    (ih1 : 0 < A1.length → 0 < B1.length → symR f N a s mid (Pre ++ (A1 ++ (B1 ++ (A2 ++ (B2 ++ Post))))) (Pre ++ (mg lt A1 B1 ++ (A2 ++ (B2 ++ Post)))))
    (ih2 : 0 < A2.length → 0 < B2.length → symR f N mid e b ((Pre ++ mg lt A1 B1) ++ (A2 ++ (B2 ++ Post))) ((Pre ++ mg lt A1 B1) ++ (mg lt A2 B2 ++ Post))) :
    Snd Tryz.prog (envOf Tryz.prog) 220 1 (tlN 9 symC) [(1, .d (.int .i64 a)), (20, .d (.int .i64 s)), (2, .d (.int .i64 m)), (18, .d (.int .i64 mid)), (24, .d (.int .i64 e)), (3, .d (.int .i64 b)), (0, .own 0 0 N), (4, .func (f, 0) [])] [.dat false 2 (((Pre ++ A1) ++ (A2 ++ (B1 ++ (B2 ++ Post)))).map dW)]
      (FinR (envOf Tryz.prog) 1 [] (.tuple []) [.dat false 2 (((Pre ++ mg lt A1 B1) ++ (mg lt A2 B2 ++ Post)).map dW)]) := by
  have tail := sym41 lt f Pre A1 B1 A2 B2 Post N a s mid e b hs hm he hb ih1 ih2
  simp only [symC, Tryz.f220, Option.getD_some, tlN] at tail ⊢
  refine Snd.upto envOf_ok hmix 1 _ ?_
  simp only [hdN, tlN]
  simp only [List.length_append] at hN
  by_cases q1 : ((s : Int) < (m : Int))
  · by_cases q2 : ((m : Int) < (e : Int))
    · simp (maxSteps := 2000000) -implicitDefEqProofs only [zz, evop, ev, tget, tput, ok, V.isUndef, intBin, guardOf, Ch.on, calleeOf, withArgs, told, ↓reduceIte, reduceCtorEq, Nat.reduceLT, Nat.reduceEqDiff, nilTest, q1, q2]
      refine acall_ref [0] (r_rotate (Pre ++ A1) A2 B1 (B2 ++ Post) N s m e (by simp; omega) hN' (by simp; omega) (by omega) (by omega) (by omega) (by omega) f) (by first | rfl | simp [renL, V.ren, frρ, renL_ds]) (by simp) rfl (by simp) (by simp) (by intro j hj; match j, hj with | 0, _ => exact ⟨by simp [hget], rfl⟩) ?_
      try simp (maxSteps := 2000000) -implicitDefEqProofs only [zz, tput, hput, ↓reduceIte, Nat.reduceLT, Blk.ren, V.ren, renL, frameH, putL, cutK_normal]
      rw [List.append_assoc Pre A1]
      exact Snd.weak (Weak.trimsM 1 (by simp) rfl (by simp [tget, V.lower, lowerL]) (by simp [Blk.lower])) tail
    · have eB : B1 = [] := List.length_eq_zero_iff.1 (by omega)
      subst eB
      simp (maxSteps := 2000000) -implicitDefEqProofs only [zz, evop, ev, tget, tput, ok, V.isUndef, intBin, guardOf, Ch.on, told, ↓reduceIte, Nat.reduceLT, Nat.reduceEqDiff, nilTest, cutK_normal, q1, q2]
      rw [List.append_assoc Pre A1]
      simp only [List.nil_append] at tail ⊢
      exact Snd.weak (Weak.trimsM 1 (by simp) rfl (by simp [tget, V.lower, lowerL]) (by simp [Blk.lower])) tail
  · have eA : A2 = [] := List.length_eq_zero_iff.1 (by omega)
    subst eA
    simp (maxSteps := 2000000) -implicitDefEqProofs only [zz, evop, ev, ofVal, tget, tput, ok, V.isUndef, intBin, guardOf, Ch.on, told, ↓reduceIte, Nat.reduceLT, Nat.reduceEqDiff, nilTest, cutK_normal, q1]
    rw [List.append_assoc Pre A1]
    simp only [List.nil_append] at tail ⊢
    exact Snd.weak (Weak.trimsM 1 (by simp) rfl (by simp [tget, V.lower, lowerL]) (by simp [Blk.lower])) tail


theorem sym32 (c : Int × Int → Int × Int → Int) (f : Nat) (hc : ∀ x y, CSpec Tryz.prog f [dW x, dW y] (.int .i64 (c x y))) (hnt : ∀ x y z, lts c x y = false → lts c y z = false → lts c x z = false) (hir : ∀ x, lts c x x = false)
    (Pre A B Post : List (Int × Int)) (N a m mid b s0 r0 k : Nat) (hk : A.length + B.length ≤ k + 1) (hN : (Pre ++ (A ++ (B ++ Post))).length = N) (hN' : N ≤ 1000000) (ha : a = Pre.length) (hm : m = a + A.length) (hb : b = m + B.length) (hA1 : 1 < A.length) (hB1 : 1 < B.length) (hmid : (a + b) / 2 = mid) (hSA : Srt (lts c) A) (hSB : Srt (lts c) B)
    (hsr : (mid < m ∧ s0 = mid + m - b ∧ r0 = mid) ∨ (m ≤ mid ∧ s0 = a ∧ r0 = m))
    (ih : ∀ (Pre A B Post : List (Int × Int)) (N a m b : Nat), A.length + B.length ≤ k → (Pre ++ (A ++ (B ++ Post))).length = N → N ≤ 1000000 → a = Pre.length → m = a + A.length → b = m + B.length → 0 < A.length → 0 < B.length → Srt (lts c) A → Srt (lts c) B → symR f N a m b (Pre ++ (A ++ (B ++ Post))) (Pre ++ (mg (lts c) A B ++ Post))) :
    Snd Tryz.prog (envOf Tryz.prog) 220 1 (tlN 6 symC) [(20, .d (.int .i64 s0)), (21, .d (.int .i64 r0)), (19, .d (.int .i64 ((mid + m : Nat) : Int))), (1, .d (.int .i64 a)), (2, .d (.int .i64 m)), (18, .d (.int .i64 mid)), (3, .d (.int .i64 b)), (0, .own 0 0 N), (4, .func (f, 0) [])] [.dat false 2 ((Pre ++ (A ++ (B ++ Post))).map dW)]
      (FinR (envOf Tryz.prog) 1 [] (.tuple []) [.dat false 2 ((Pre ++ (mg (lts c) A B ++ Post)).map dW)]) := by
  have tail := fun (A1 B1 A2 B2 : List (Int × Int)) (s e : Nat) h1 h2 h3 h4 h5 h6 h7 h8 h9 => sym39 (lts c) f Pre A1 B1 A2 B2 Post N a s m mid e b h1 hN' ha h2 h3 h4 h5 h6 h7 h8 h9
  simp only [symC, Tryz.f220, Option.getD_some, tlN] at tail ⊢
  have hN0 := hN
  simp only [List.length_append] at hN
  have hwp : IntKind.i64.wrap (((mid + m : Nat) : Int) - 1) = ((mid + m - 1 : Nat) : Int) := by rw [wrap_in (by omega)]; omega
  refine Snd.upto envOf_ok hmix 3 _ ?_
  simp only [hdN, tlN]
  simp (maxSteps := 2000000) -implicitDefEqProofs only [zz, evop, ev, ofVal, tget, tput, ok, V.isUndef, intBin, Ch.on, ↓reduceIte, Nat.reduceLT, Nat.reduceEqDiff, nilTest, hwp]
  refine wloop_ind (σ := Nat × Nat) (fun s => s.2 - s.1) (fun s => [(20, .d (.int .i64 ((s.1 : Nat) : Int))), (21, .d (.int .i64 ((s.2 : Nat) : Int))), (22, .d (.int .i64 ((mid + m - 1 : Nat) : Int))), (19, .d (.int .i64 ((mid + m : Nat) : Int))), (18, .d (.int .i64 (mid : Int))), (0, .own 0 0 N), (1, .d (.int .i64 a)), (2, .d (.int .i64 m)), (3, .d (.int .i64 b)), (4, .func (f, 0) [])])
    (fun s => [.dat false 2 ((Pre ++ (A ++ (B ++ Post))).map dW)]) (fun s => s0 ≤ s.1 ∧ s.1 ≤ s.2 ∧ s.2 ≤ r0 ∧ (∀ k x y, s0 ≤ k → k < s.1 → A[k - a]? = some x → B[mid - 1 - k]? = some y → ¬ c y x < 0) ∧ (∀ k x y, s.2 ≤ k → k < r0 → A[k - a]? = some x → B[mid - 1 - k]? = some y → c y x < 0))
    (s0, r0) ⟨Nat.le_refl _, by simp only; omega, Nat.le_refl _, fun k x y h1 h2 => by simp only at h2; omega, fun k x y h1 h2 => by simp only at h1; omega⟩ (Weak.sub (by simp [tget] <;> omega)) ?_
  rintro ⟨s, r⟩ ⟨hs1, hs2, hs3, hlo, hhi⟩
  simp only at hs1 hs2 hs3 hlo hhi
  rcases Nat.lt_or_ge s r with hsr' | hsr'
  · have h' : (((s : Nat) : Int) < ((r : Nat) : Int)) := by omega
    have hws : IntKind.i64.wrap (((s : Nat) : Int) + ((r : Nat) : Int)) = ((s + r : Nat) : Int) := by rw [wrap_in (by omega)]; omega
    have hwh := half_u (s + r) (by omega)
    obtain ⟨h, hh, hh1, hh2⟩ : ∃ h, (s + r) / 2 = h ∧ s ≤ h ∧ h < r := ⟨(s + r) / 2, rfl, by omega, by omega⟩
    rw [hh] at hwh
    have hwq : IntKind.i64.wrap (((mid + m - 1 : Nat) : Int) - (h : Int)) = ((mid + m - 1 - h : Nat) : Int) := by rw [wrap_in (by omega)]; omega
    have hwi : IntKind.i64.wrap ((h : Int) + 1) = ((h + 1 : Nat) : Int) := by rw [wrap_in (by omega)]; omega
    have hx : A[h - a]? = some (A[h - a]'(by omega)) := List.getElem?_eq_getElem (by omega)
    have hy : B[mid - 1 - h]? = some (B[mid - 1 - h]'(by omega)) := List.getElem?_eq_getElem (by omega)
    obtain ⟨x, hx'⟩ : ∃ x, x = A[h - a]'(by omega) := ⟨_, rfl⟩
    obtain ⟨y, hy'⟩ : ∃ y, y = B[mid - 1 - h]'(by omega) := ⟨_, rfl⟩
    rw [← hx'] at hx
    rw [← hy'] at hy
    have gA : (Pre ++ (A ++ (B ++ Post)))[h]? = some x := by
      rw [List.getElem?_append_right (by omega), List.getElem?_append_left (by omega), ← hx]; congr 1; omega
    have gB : (Pre ++ (A ++ (B ++ Post)))[mid + m - 1 - h]? = some y := by
      rw [List.getElem?_append_right (by omega), List.getElem?_append_right (by omega), List.getElem?_append_left (by omega), ← hy]; congr 1; omega
    clear tail ih
    simp (maxSteps := 2000000) -implicitDefEqProofs only [zz, zE, evop, ev, ofVal, tget, tput, ok, V.isUndef, intBin, Ch.on, told, ↓reduceIte, Nat.reduceLT, Nat.reduceEqDiff, Int.reduceToNat, nilTest, h', hws, hwh]
    refine ⟨⟨by decide, by decide⟩, ?_⟩
    refine wdraw_plan [⟨[], false, [159, 160, 161, 162, 163, 164, 165, 166, 167, 168], [], false⟩, ⟨[], false, [158, 160, 161, 162, 165, 166, 167, 168], [0], false⟩, ⟨[], false, [158, 159, 161, 165, 166, 167, 168], [0, 1], false⟩, ⟨[], false, [158, 159, 160, 165, 166, 167, 168], [0, 1, 2], false⟩, ⟨[2, 3], false, [158, 159, 165, 166, 167, 168], [0, 1], false⟩, ⟨[1, 2, 3, 4], false, [158, 165, 166, 167, 168], [0], false⟩, ⟨[1, 2, 3, 4, 5], false, [158, 165, 166, 167, 168], [0], false⟩, ⟨[], false, [158, 159, 160, 161, 162, 163, 164, 166], [0, 1, 2, 3, 4, 5, 6], false⟩, ⟨[], false, [158, 159, 160, 161, 162, 163, 164, 165], [0, 1, 2, 3, 4, 5, 6, 7], false⟩, ⟨[7, 8], false, [158, 159, 160, 161, 162, 163, 164], [0, 1, 2, 3, 4, 5, 6], false⟩, ⟨[7, 8, 9], false, [158, 159, 160, 161, 162, 163, 164], [0, 1, 2, 3, 4, 5, 6], false⟩, ⟨[0, 1, 2, 3, 4, 5, 6, 7, 8, 9, 10], true, [], [], false⟩, ⟨[0, 1, 2, 3, 4, 5, 6, 7, 8, 9, 10, 11], true, [], [], false⟩, ⟨[0, 1, 2, 3, 4, 5, 6, 7, 8, 9, 10, 11, 12], true, [], [], false⟩] (by decide) ?_
    simp (maxSteps := 2000000) -implicitDefEqProofs only [zz, zE, evop, ev, ofVal, tget, tput, ok, V.isUndef, intBin, calleeOf, withArgs, hget, hput, V.cells, D.cells, V.isAgg, loadD, Blk.width, ↓reduceIte, reduceCtorEq, Nat.reduceLT, Nat.reduceEqDiff, Nat.reduceAdd, Nat.reduceLeDiff, dW, hwq, List.getElem?_map, gA, gB, Option.map_some, Int.natCast_nonneg]
    refine ⟨by omega, by omega, ?_⟩
    refine acall_flat (ds := [dW y, dW x]) (by simp only [xports, xport, dW]) (hc y x) rfl ?_
    simp (maxSteps := 2000000) -implicitDefEqProofs only [zz, evop, ev, ofVal, tget, tput, ok, V.isUndef, intBin, Ch.on, told, ↓reduceIte, Nat.reduceLT, Nat.reduceEqDiff, Nat.reduceAdd, nilTest, hwi]
    by_cases hcy : c y x < 0
    · simp (maxSteps := 2000000) -implicitDefEqProofs only [zz, ↓reduceIte, hcy]
      refine ⟨(s, h), ⟨hs1, by simp only; omega, by simp only; omega, hlo, fun k' x' y' h1 h2 hx2 hy2 => ?_⟩, by simp only; omega, Weak.trimsM 1 (by simp) rfl (by simp [tget, V.lower, lowerL]) (by simp [Blk.lower])⟩
      simp only at h1
      exact up_of hnt hSA (by omega) hx hx2 (low_of hnt hSB (by omega) hy2 hy hcy)
    · simp (maxSteps := 2000000) -implicitDefEqProofs only [zz, ↓reduceIte, hcy]
      refine ⟨(h + 1, r), ⟨by simp only; omega, by simp only; omega, hs3, fun k' x' y' h1 h2 hx2 hy2 => ?_, hhi⟩, by simp only; omega, Weak.trimsM 1 (by simp) rfl (by simp [tget, V.lower, lowerL]) (by simp [Blk.lower])⟩
      simp only at h2
      exact dn_of hnt hSA (by omega) hx hx2 (high_of hnt hSB (by omega) hy2 hy hcy)
  obtain rfl : s = r := by omega
  obtain ⟨i, hi⟩ : ∃ i, s - a = i := ⟨_, rfl⟩
  obtain ⟨j, hj⟩ : ∃ j, mid - s = j := ⟨_, rfl⟩
  have hsa : a ≤ s := by omega
  have hsm : s ≤ mid := by omega
  obtain ⟨hc1, hc2⟩ := cut_ok hnt hir hSA hSB (i := i) (j := j) (by omega) (by omega) (fun h1 h2 x y hx hy => by
      have := hlo (s - 1) x y (by omega) (by omega) (by rw [← hx]; congr 1; omega) (by rw [← hy]; congr 1; omega)
      simpa using this) (fun h1 h2 x y hx hy => by
      have := hhi s x y (by omega) (by omega) (by rw [← hx]; congr 1) (by rw [← hy]; congr 1; omega)
      simpa using this)
  obtain ⟨A1, hA1e⟩ : ∃ A1, A1 = A.take i := ⟨_, rfl⟩
  obtain ⟨A2, hA2e⟩ : ∃ A2, A2 = A.drop i := ⟨_, rfl⟩
  obtain ⟨B1, hB1e⟩ : ∃ B1, B1 = B.take j := ⟨_, rfl⟩
  obtain ⟨B2, hB2e⟩ : ∃ B2, B2 = B.drop j := ⟨_, rfl⟩
  have hAe : A = A1 ++ A2 := by rw [hA1e, hA2e, List.take_append_drop]
  have hBe : B = B1 ++ B2 := by rw [hB1e, hB2e, List.take_append_drop]
  have la1 : A1.length = i := by rw [hA1e]; simp; omega
  have la2 : A2.length = A.length - i := by rw [hA2e]; simp
  have lb1 : B1.length = j := by rw [hB1e]; simp; omega
  have lb2 : B2.length = B.length - j := by rw [hB2e]; simp
  have sA1 := hA1e ▸ hSA.take i
  have sA2 := hA2e ▸ hSA.drop i
  have sB1 := hB1e ▸ hSB.take j
  have sB2 := hB2e ▸ hSB.drop j
  rw [← hA1e, ← hB2e] at hc1
  rw [← hB1e, ← hA2e] at hc2
  have hlist : Pre ++ (A ++ (B ++ Post)) = (Pre ++ A1) ++ (A2 ++ (B1 ++ (B2 ++ Post))) := by rw [hAe, hBe]; simp
  have hfin : Pre ++ (mg (lts c) A B ++ Post) = (Pre ++ mg (lts c) A1 B1) ++ (mg (lts c) A2 B2 ++ Post) := by
    rw [hAe, hBe, mg_split A1 B1 hc1 hc2]; simp
  have hml := mg_len (lt := lts c) A1 B1
  have hwe : IntKind.i64.wrap (((mid + m : Nat) : Int) - (s : Int)) = ((m + j : Nat) : Int) := by rw [wrap_in (by omega)]; omega
  have h' : ¬ (((s : Nat) : Int) < ((s : Nat) : Int)) := by omega
  have tl := tail A1 B1 A2 B2 s (m + j) (by simp; omega) (by omega) (by omega) (by omega) (by omega) (by omega) (by omega)
    (fun g1 g2 => ih Pre A1 B1 (A2 ++ (B2 ++ Post)) N a s mid (by omega) (by simp; omega) hN' ha (by omega) (by omega) g1 g2 sA1 sB1)
    (fun g1 g2 => ih (Pre ++ mg (lts c) A1 B1) A2 B2 Post N mid (m + j) b (by omega) (by simp; omega) hN' (by simp; omega) (by omega) (by omega) g1 g2 sA2 sB2)
  rw [hlist, hfin]
  clear hlo hhi hlist hfin hc1 hc2 tail ih
  simp (maxSteps := 2000000) -implicitDefEqProofs only [zz, evop, ev, tget, tput, ok, V.isUndef, intBin, Ch.on, told, ↓reduceIte, Nat.reduceLT, Nat.reduceEqDiff, nilTest, cutK_normal, h', hwe]
  exact Snd.weak (Weak.sub (by simp [tget])) tl

theorem r_sym (c : Int × Int → Int × Int → Int) (f : Nat) (hc : ∀ x y, CSpec Tryz.prog f [dW x, dW y] (.int .i64 (c x y))) (hnt : ∀ x y z, lts c x y = false → lts c y z = false → lts c x z = false) (hir : ∀ x, lts c x x = false) : ∀ (k : Nat) (Pre A B Post : List (Int × Int)) (N a m b : Nat), A.length + B.length ≤ k → (Pre ++ (A ++ (B ++ Post))).length = N → N ≤ 1000000 → a = Pre.length → m = a + A.length → b = m + B.length → 0 < A.length → 0 < B.length →
    Srt (lts c) A → Srt (lts c) B → symR f N a m b (Pre ++ (A ++ (B ++ Post))) (Pre ++ (mg (lts c) A B ++ Post))
  | 0, Pre, A, B, Post, N, a, m, b, hk, _, _, _, _, _, hA, _, _, _ => by omega
  | k + 1, Pre, A, B, Post, N, a, m, b, hk, hN, hN', ha, hm, hb, hA, hB, hSA, hSB => by
    rcases Nat.lt_or_ge 1 A.length with hA1 | hA1
    rotate_left
    · match A, hA, hA1 with
      | [x], _, _ => exact r_sym_left c f hc x Pre B Post N a m b hN hN' ha (by simpa using hm) hb hB hnt hSB
    rcases Nat.lt_or_ge 1 B.length with hB1 | hB1
    rotate_left
    · match B, hB, hB1 with
      | [y], _, _ => exact r_sym_right c f hc y Pre A Post N a m b hN hN' ha hm (by simpa using hb) hA1 hnt hSA
    obtain ⟨mid, hmid⟩ : ∃ mid, (a + b) / 2 = mid := ⟨_, rfl⟩
    have tail := fun s0 r0 hsr => sym32 c f hc hnt hir Pre A B Post N a m mid b s0 r0 k hk hN hN' ha hm hb hA1 hB1 hmid hSA hSB hsr (r_sym c f hc hnt hir k)
    have hN0 := hN
    simp only [List.length_append] at hN
    have hw1 : IntKind.i64.wrap ((m : Int) - (a : Int)) = (A.length : Int) := by rw [wrap_in (by omega)]; omega
    have hw2 : IntKind.i64.wrap ((b : Int) - (m : Int)) = (B.length : Int) := by rw [wrap_in (by omega)]; omega
    have e0 : ((A.length : Int) == 1) = false := by rw [beq_eq_false_iff_ne]; omega
    have e1 : ((B.length : Int) == 1) = false := by rw [beq_eq_false_iff_ne]; omega
    have hwab : IntKind.i64.wrap ((a : Int) + (b : Int)) = ((a + b : Nat) : Int) := by rw [wrap_in (by omega)]; omega
    have hwmid := half_u (a + b) (by omega)
    rw [hmid] at hwmid
    have hwn : IntKind.i64.wrap ((mid : Int) + (m : Int)) = ((mid + m : Nat) : Int) := by rw [wrap_in (by omega)]; omega
    simp only [symC, Tryz.f220, Option.getD_some, tlN] at tail
    refine RSpec.of_snd envOf_ok hmix Tryz.func220 rfl (fun args w => Tryz.call220 args w) (by simp [Tryz.f220]) ?_
    simp only [Tryz.f220]
    refine Snd.upto envOf_ok hmix 6 _ ?_
    simp only [hdN, tlN]
    simp (maxSteps := 2000000) -implicitDefEqProofs only [zz, zE, evop, ev, ofVal, tget, tput, ok, V.isUndef, intBin, Ch.on, told, ↓reduceIte, reduceCtorEq, Nat.reduceLT, Nat.reduceEqDiff, Nat.reduceAdd, Int.reduceToNat, nilTest, initV, cutK_normal, hw1, hw2, e0, e1, hwab, hwmid, hwn]
    refine ⟨⟨by decide, by decide⟩, ?_⟩
    by_cases hlt : ((mid : Int) < (m : Int))
    · have hs0 : IntKind.i64.wrap (((mid + m : Nat) : Int) - (b : Int)) = ((mid + m - b : Nat) : Int) := by rw [wrap_in (by omega)]; omega
      simp (maxSteps := 2000000) -implicitDefEqProofs only [zz, ↓reduceIte, hlt, hs0]
      exact Snd.weak (Weak.sub (by simp [tget])) (tail (mid + m - b) mid (.inl ⟨by omega, rfl, rfl⟩))
    · simp (maxSteps := 2000000) -implicitDefEqProofs only [zz, ↓reduceIte, hlt]
      exact Snd.weak (Weak.sub (by simp [tget])) (tail a m (.inr ⟨by omega, rfl, rfl⟩))

end Go.Proofs.YtjhfpabldidlgaaGreat.AM

/- The insertion sort is the merge of the two parts' sorts. -/
set_option linter.all false
namespace Go.Proofs.YtjhfpabldidlgaaGreat.AM
open Go

section
variable {α : Type} {lt : α → α → Bool}

theorem mg_mem {y : α} : ∀ {A B : List α}, y ∈ mg lt A B → y ∈ A ∨ y ∈ B
  | [], B, h => by rw [mg_nil] at h; exact .inr h
  | a :: A, [], h => by rw [mg_nil'] at h; exact .inl h
  | a :: A, b :: B, h => by
    rw [mg_cons] at h
    split at h
    · rcases List.mem_cons.1 h with rfl | h
      · exact .inl (by simp)
      · rcases mg_mem h with h | h
        · exact .inl (by simp [h])
        · exact .inr h
    · rcases List.mem_cons.1 h with rfl | h
      · exact .inr (by simp)
      · rcases mg_mem h with h | h
        · exact .inl h
        · exact .inr (by simp [h])

def PW (lt : α → α → Bool) (l : List α) : Prop := l.Pairwise (fun x y => lt y x = false)

theorem PW.srt {l : List α} (h : PW lt l) : Srt lt l := fun i j x y hij hx hy => by
  obtain ⟨hi, rfl⟩ := List.getElem?_eq_some_iff.1 hx
  obtain ⟨hj, rfl⟩ := List.getElem?_eq_some_iff.1 hy
  exact List.pairwise_iff_getElem.1 h i j hi hj hij

theorem cut_at (hnt : ∀ x y z, lt x y = false → lt y z = false → lt x z = false) {l : List α} (h : PW lt l) (x : α) : ∃ l1 l2, l = l1 ++ l2 ∧ (∀ y ∈ l1, lt x y = false) ∧ (∀ y ∈ l2, lt x y = true) := by
  induction l with
  | nil => exact ⟨[], [], rfl, by simp, by simp⟩
  | cons a r ih =>
    obtain ⟨h1, h2⟩ := List.pairwise_cons.1 h
    cases hx : lt x a with
    | true =>
      refine ⟨[], a :: r, rfl, by simp, fun y hy => ?_⟩
      rcases List.mem_cons.1 hy with rfl | hy
      · exact hx
      · cases hd : lt x y with
        | true => rfl
        | false => have := hnt x y a hd (h1 y hy); rw [hx] at this; cases this
    | false =>
      obtain ⟨l1, l2, rfl, g1, g2⟩ := ih h2
      refine ⟨a :: l1, l2, rfl, fun y hy => ?_, g2⟩
      rcases List.mem_cons.1 hy with rfl | hy
      · exact hx
      · exact g1 y hy

theorem insR_cut {l1 l2 : List α} {x : α} (h1 : ∀ y ∈ l1, lt x y = false) (h2 : ∀ y ∈ l2, lt x y = true) : insR lt x (l1 ++ l2) = l1 ++ x :: l2 := by
  have : insK lt x (l1 ++ l2) = l1.length := by
    refine insK_eq (by simp) (fun i hi y hy => ?_) ?_
    · rw [List.getElem?_append_right hi] at hy
      exact h2 y (List.mem_of_getElem? hy)
    · rcases Nat.eq_zero_or_pos l1.length with h | h
      · exact .inl h
      · refine .inr ⟨l1[l1.length - 1]'(by omega), ?_, h1 _ (List.getElem_mem _)⟩
        rw [List.getElem?_append_left (by omega), List.getElem?_eq_getElem (by omega)]
  unfold insR
  rw [this, List.take_left' rfl, List.drop_left' rfl]

theorem insR_pw (hnt : ∀ x y z, lt x y = false → lt y z = false → lt x z = false) (has : ∀ x y, lt x y = true → lt y x = false) {l : List α} (h : PW lt l) (x : α) : PW lt (insR lt x l) := by
  obtain ⟨l1, l2, rfl, g1, g2⟩ := cut_at hnt h x
  rw [insR_cut g1 g2]
  obtain ⟨p1, p2, p3⟩ := List.pairwise_append.1 h
  refine List.pairwise_append.2 ⟨p1, List.pairwise_cons.2 ⟨fun y hy => has _ _ (g2 y hy), p2⟩, fun a ha b hb => ?_⟩
  rcases List.mem_cons.1 hb with rfl | hb
  · exact g1 a ha
  · exact p3 a ha b hb

theorem isort_pw (hnt : ∀ x y z, lt x y = false → lt y z = false → lt x z = false) (has : ∀ x y, lt x y = true → lt y x = false) (l : List α) : PW lt (isort lt l) := by
  have : ∀ (l A : List α), PW lt A → PW lt (l.foldl (fun A x => insR lt x A) A) := by
    intro l
    induction l with
    | nil => intro A h; exact h
    | cons x l ih => intro A h; exact ih _ (insR_pw hnt has h x)
  exact this l [] List.Pairwise.nil

theorem mg_insR (hnt : ∀ x y z, lt x y = false → lt y z = false → lt x z = false) (has : ∀ x y, lt x y = true → lt y x = false) {L M : List α} (hL : PW lt L) (hM : PW lt M) (x : α) : mg lt L (insR lt x M) = insR lt x (mg lt L M) := by
  obtain ⟨L1, L2, rfl, a1, a2⟩ := cut_at hnt hL x
  obtain ⟨M1, M2, rfl, b1, b2⟩ := cut_at hnt hM x
  have c1 : ∀ l ∈ L1, ∀ m ∈ M2, lt m l = false := fun l hl m hm => hnt m x l (has _ _ (b2 m hm)) (a1 l hl)
  have c2 : ∀ m ∈ M1, ∀ l ∈ L2, lt m l = true := fun m hm l hl => by
    cases hd : lt m l with
    | true => rfl
    | false => have := hnt x m l (b1 m hm) hd; rw [a2 l hl] at this; cases this
  rw [insR_cut b1 b2, mg_split L1 M1 c1 c2, insR_cut (fun y hy => by rcases mg_mem hy with h | h; exact a1 y h; exact b1 y h) (fun y hy => by rcases mg_mem hy with h | h; exact a2 y h; exact b2 y h)]
  have e1 : M1 ++ x :: M2 = (M1 ++ [x]) ++ M2 := by simp
  rw [e1, mg_split L1 (M1 ++ [x]) c1 (fun y hy l hl => by
    rcases List.mem_append.1 hy with hy | hy
    · exact c2 y hy l hl
    · simp at hy; subst hy; exact a2 l hl)]
  have e2 := mg_split L1 M1 (A2 := []) (B2 := [x]) (lt := lt) (fun l hl y hy => by simp at hy; subst hy; exact a1 l hl) (by simp)
  rw [List.append_nil, mg_nil] at e2
  rw [e2]; simp

theorem isort_mg (hnt : ∀ x y z, lt x y = false → lt y z = false → lt x z = false) (has : ∀ x y, lt x y = true → lt y x = false) (A B : List α) : mg lt (isort lt A) (isort lt B) = isort lt (A ++ B) := by
  have : ∀ (n : Nat) (B : List α), B.length = n → mg lt (isort lt A) (isort lt B) = isort lt (A ++ B) := by
    intro n
    induction n with
    | zero => intro B hB; rw [List.length_eq_zero_iff.1 hB]; simp [isort, mg_nil']
    | succ n ih =>
      intro B hB
      have hne : B ≠ [] := fun e => by rw [e] at hB; simp at hB
      have e := List.dropLast_concat_getLast hne
      rw [← e, isort_snoc, mg_insR hnt has (isort_pw hnt has A) (isort_pw hnt has _), ih _ (by simp; omega), ← isort_snoc, List.append_assoc]
  exact this B.length B rfl

end
end Go.Proofs.YtjhfpabldidlgaaGreat.AM

/- writes.Last of few. -/
set_option linter.all false
set_option maxRecDepth 100000
set_option maxHeartbeats 4000000
namespace Go.Proofs.YtjhfpabldidlgaaGreat.AM
open Go Go.RowKit

end Go.Proofs.YtjhfpabldidlgaaGreat.AM

/- The stable sort of up to 39 writes; writes.Last. -/
set_option linter.all false
set_option maxRecDepth 100000
set_option maxHeartbeats 4000000
namespace Go.Proofs.YtjhfpabldidlgaaGreat.AM
open Go Go.RowKit

theorem sortPart_len (lt : Int × Int → Int × Int → Bool) (ws : List (Int × Int)) {a b : Nat} (hab : a ≤ b) (hb : b ≤ ws.length) : (sortPart lt ws a b).length = ws.length := by
  simp [sortPart, isort_length]; omega

theorem r_stable_two (ws : List (Int × Int)) (hl : 20 ≤ ws.length) (hl2 : ws.length < 40) (f : Nat) (c : Int × Int → Int × Int → Int) (hc : ∀ x y, CSpec Tryz.prog f [dW x, dW y] (.int .i64 (c x y)))
    (hnt : ∀ x y z, lts c x y = false → lts c y z = false → lts c x z = false) (has : ∀ x y, lts c x y = true → lts c y x = false) (hir : ∀ x, lts c x x = false) :
    RSpec Tryz.prog 185 [.own 0 0 ws.length, .d (.int .i64 ws.length), .func (f, 0) []] [.dat false 2 (ws.map dW)] (.tuple []) [.dat false 2 ((isort (lts c) ws).map dW)] := by
  obtain ⟨w1, hw1⟩ : ∃ w1, w1 = sortPart (lts c) ws 0 20 := ⟨_, rfl⟩
  obtain ⟨w2, hw2⟩ : ∃ w2, w2 = sortPart (lts c) w1 20 ws.length := ⟨_, rfl⟩
  have l1 : w1.length = ws.length := by rw [hw1]; exact sortPart_len _ _ (by omega) hl
  have l2 : w2.length = ws.length := by rw [hw2]; rw [sortPart_len _ _ (by omega) (by omega)]; exact l1
  have e1 : w1 = isort (lts c) (ws.take 20) ++ ws.drop 20 := by rw [hw1]; simp [sortPart]
  have e2 : w2 = isort (lts c) (ws.take 20) ++ isort (lts c) (ws.drop 20) := by
    have h20 : (isort (lts c) (ws.take 20)).length = 20 := by rw [isort_length]; simp; omega
    have t1 : w1.take 20 = isort (lts c) (ws.take 20) := by rw [e1]; exact List.take_left' h20
    have t2 : w1.drop 20 = ws.drop 20 := by rw [e1]; exact List.drop_left' h20
    have t3 : w1.drop ws.length = [] := List.drop_of_length_le (by omega)
    rw [hw2]; unfold sortPart
    have t4 : (ws.drop 20).take (ws.length - 20) = ws.drop 20 := List.take_of_length_le (by simp)
    rw [t1, t2, t3, t4, List.append_nil]
  have hR1 := r_insertion_W ws 0 20 (by omega) hl (by omega) f c hc
  have hR2 := r_insertion_W w1 20 ws.length (by omega) (by omega) (by omega) f c hc
  rw [← hw1] at hR1
  rw [← hw2, l1] at hR2
  have hR1' : RSpec Tryz.prog 219 [.own 0 0 ws.length, .d (.int .i64 0), .d (.int .i64 20), .func (f, 0) []] [.dat false 2 (ws.map dW)] (.tuple []) [.dat false 2 (w1.map dW)] := hR1
  have hR2' : RSpec Tryz.prog 219 [.own 0 0 ws.length, .d (.int .i64 20), .d (.int .i64 ws.length), .func (f, 0) []] [.dat false 2 (w1.map dW)] (.tuple []) [.dat false 2 (w2.map dW)] := hR2
  have hfin : isort (lts c) ws = mg (lts c) (isort (lts c) (ws.take 20)) (isort (lts c) (ws.drop 20)) := by
    rw [isort_mg hnt has, List.take_append_drop]
  have h40 : ¬ ((40 : Int) ≤ (ws.length : Int)) := by omega
  refine RSpec.of_awp envOf_ok hmix Tryz.func185 rfl (fun args w => Tryz.call185 args w) (by simp [Tryz.f185]) ?_
  simp only [Tryz.f185]
  simp (maxSteps := 2000000) -implicitDefEqProofs only [zz, evop, ev, ofVal, tget, tput, ok, V.isUndef, Ch.on, ↓reduceIte, Nat.reduceLT, Nat.reduceEqDiff, Nat.reduceAdd, initV]
  refine wloop_count 1 (fun i => [(0, .own 0 0 ws.length), (1, .d (.int .i64 ws.length)), (2, .func (f, 0) []), (6, .d (.int .i64 20)), (7, .d (.int .i64 (if i = 0 then 0 else 20))), (8, .d (.int .i64 (if i = 0 then 20 else 40)))]) (fun i => [.dat false 2 ((if i = 0 then ws else w1).map dW)]) (fun i => True) trivial (Weak.sub (by simp [tget])) (fun i hi _ => ?_) (fun _ => ?_)
  · obtain rfl : i = 0 := by omega
    have h' : ((20 : Int) ≤ (ws.length : Int)) := by omega
    have hwa : IntKind.i64.wrap 40 = 40 := wrap_in (by omega)
    simp (maxSteps := 2000000) -implicitDefEqProofs only [zz, evop, ev, tget, tput, ok, V.isUndef, intBin, Ch.on, calleeOf, withArgs, told, ↓reduceIte, reduceCtorEq, Nat.reduceLT, Nat.reduceEqDiff, nilTest, h']
    refine acall_ref [0] (hR1') (by first | rfl | simp [renL, V.ren, frρ, renL_ds]) (by simp) rfl (by simp) (by simp) (by intro j hj; match j, hj with | 0, _ => exact ⟨by simp [hget], rfl⟩) ?_
    try simp (maxSteps := 2000000) -implicitDefEqProofs only [zz, evop, ev, tget, tput, ok, V.isUndef, intBin, Ch.on, hput, ↓reduceIte, reduceCtorEq, Nat.reduceLT, Nat.reduceEqDiff, Int.reduceAdd, nilTest, Blk.ren, V.ren, renL, frameH, putL]
    exact Weak.sub (by simp [tget, hwa])
  · simp (maxSteps := 2000000) -implicitDefEqProofs only [zz, evop, ev, tget, tput, ok, V.isUndef, intBin, Ch.on, calleeOf, withArgs, told, ↓reduceIte, reduceCtorEq, Nat.reduceLT, Nat.reduceEqDiff, nilTest, h40, Nat.one_ne_zero]
    refine acall_ref [0] (hR2') (by first | rfl | simp [renL, V.ren, frρ, renL_ds]) (by simp) rfl (by simp) (by simp) (by intro j hj; match j, hj with | 0, _ => exact ⟨by simp [hget], rfl⟩) ?_
    try simp (maxSteps := 2000000) -implicitDefEqProofs only [zz, tput, hput, ↓reduceIte, Nat.reduceLT, Blk.ren, V.ren, renL, frameH, putL]
    refine wloop_count (if ws.length = 20 then 0 else 1) (fun i => [(0, .own 0 0 ws.length), (1, .d (.int .i64 ws.length)), (2, .func (f, 0) []), (6, .d (.int .i64 (if i = 0 then 20 else 40)))]) (fun i => [.dat false 2 ((if i = 0 then w2 else isort (lts c) ws).map dW)]) (fun i => True) trivial (Weak.sub (by simp [tget])) (fun i hi _ => ?_) (fun _ => ?_)
    · have hgt : 20 < ws.length := by
        split at hi
        · omega
        · omega
      have h20 : ((20 : Int) < (ws.length : Int)) := by omega
      obtain rfl : i = 0 := by split at hi <;> omega
      have hwm : IntKind.i64.wrap 40 = 40 := wrap_in (by omega)
      have hw20 : IntKind.i64.wrap 20 = 20 := wrap_in (by omega)
      have hsym := r_sym c f hc hnt hir (ws.length) [] (isort (lts c) (ws.take 20)) (isort (lts c) (ws.drop 20)) [] ws.length 0 20 ws.length (by simp [isort_length]; omega) (by simp [isort_length]; omega) (by omega) rfl (by simp [isort_length]; omega) (by simp [isort_length]; omega) (by simp [isort_length]; omega) (by simp [isort_length]; omega) (isort_pw hnt has _).srt (isort_pw hnt has _).srt
      simp only [symR, List.nil_append, List.append_nil] at hsym
      rw [← e2, ← hfin] at hsym
      have hsym' : RSpec Tryz.prog 220 [.own 0 0 ws.length, .d (.int .i64 0), .d (.int .i64 20), .d (.int .i64 ws.length), .func (f, 0) []] [.dat false 2 (w2.map dW)] (.tuple []) [.dat false 2 ((isort (lts c) ws).map dW)] := hsym
      simp (maxSteps := 2000000) -implicitDefEqProofs only [zz, evop, ev, ofVal, tget, tput, ok, V.isUndef, intBin, Ch.on, told, ↓reduceIte, reduceCtorEq, Nat.reduceLT, Nat.reduceEqDiff, nilTest, h20]
      refine wloop_count 0 (fun i => [(0, .own 0 0 ws.length), (1, .d (.int .i64 ws.length)), (2, .func (f, 0) []), (6, .d (.int .i64 20)), (7, .d (.int .i64 0)), (8, .d (.int .i64 40))]) (fun i => [.dat false 2 (w2.map dW)]) (fun i => True) trivial (Weak.sub (by simp [tget, hwm])) (fun i hi _ => by omega) (fun _ => ?_)
      simp (maxSteps := 2000000) -implicitDefEqProofs only [zz, evop, ev, tget, tput, ok, V.isUndef, intBin, Ch.on, calleeOf, withArgs, told, ↓reduceIte, reduceCtorEq, Nat.reduceLT, Nat.reduceEqDiff, Int.reduceAdd, nilTest, h40, hw20, h20]
      refine acall_ref [0] (hsym') (by first | rfl | simp [renL, V.ren, frρ, renL_ds]) (by simp) rfl (by simp) (by simp) (by intro j hj; match j, hj with | 0, _ => exact ⟨by simp [hget], rfl⟩) ?_
      try simp (maxSteps := 2000000) -implicitDefEqProofs only [zz, evop, ev, ofVal, tget, tput, ok, V.isUndef, intBin, Ch.on, hput, ↓reduceIte, reduceCtorEq, Nat.reduceLT, Nat.reduceEqDiff, nilTest, Blk.ren, V.ren, renL, frameH, putL]
      exact Weak.sub (by simp [tget, hwm])
    · by_cases h20 : ws.length = 20
      · have hn : ¬ ((20 : Int) < (ws.length : Int)) := by omega
        have hd : ws.drop 20 = [] := List.drop_of_length_le (by omega)
        have hw : w2 = isort (lts c) ws := by
          rw [hfin, e2, hd]; simp [isort, mg_nil']
        rw [if_pos h20]
        simp (maxSteps := 2000000) -implicitDefEqProofs only [zz, evop, ev, tget, tput, ok, V.isUndef, intBin, Ch.on, told, resOf, resVs, ↓reduceIte, reduceCtorEq, Nat.reduceLT, Nat.reduceEqDiff, nilTest, hn]
        rw [hw]
        exact Weak.sub (by simp [tget])
      · have hn : ¬ ((40 : Int) < (ws.length : Int)) := by omega
        rw [if_neg h20]
        simp (maxSteps := 2000000) -implicitDefEqProofs only [zz, evop, ev, tget, tput, ok, V.isUndef, intBin, Ch.on, told, resOf, resVs, ↓reduceIte, reduceCtorEq, Nat.reduceLT, Nat.reduceEqDiff, nilTest, hn, Nat.one_ne_zero]
        exact Weak.sub (by simp [tget])


theorem r_SortStable (ws : List (Int × Int)) (hl : ws.length < 40) (f : Nat) (c : Int × Int → Int × Int → Int) (hc : ∀ x y, CSpec Tryz.prog f [dW x, dW y] (.int .i64 (c x y)))
    (hnt : ∀ x y z, lts c x y = false → lts c y z = false → lts c x z = false) (has : ∀ x y, lts c x y = true → lts c y x = false) (hir : ∀ x, lts c x x = false) :
    RSpec Tryz.prog 130 [.own 0 0 ws.length, .func (f, 0) []] [.dat false 2 (ws.map dW)] (.tuple []) [.dat false 2 ((isort (lts c) ws).map dW)] := by
  rcases Nat.lt_or_ge ws.length 20 with h | h
  · exact r_SortStable_few ws h f c hc
  · have hR := r_stable_two ws h hl f c hc hnt has hir
    refine RSpec.of_awp envOf_ok hmix Tryz.func130 rfl (fun args w => Tryz.call130 args w) (by simp [Tryz.f130]) ?_
    simp only [Tryz.f130]
    simp (maxSteps := 2000000) -implicitDefEqProofs only [zz, zE, evop, ev, tget, tput, ok, V.isUndef, Ch.on, calleeOf, withArgs, hget, sliceOf, lenOf, ↓reduceIte, reduceCtorEq, Nat.reduceLT, Nat.reduceEqDiff, initV]
    refine acall_ref [0] (hR) (by first | rfl | simp [renL, V.ren, frρ, renL_ds]) (by simp) rfl (by simp) (by simp) (by intro j hj; match j, hj with | 0, _ => exact ⟨by simp [hget], rfl⟩) ?_
    try simp (maxSteps := 2000000) -implicitDefEqProofs only [zz, tput, hput, resOf, resVs, ↓reduceIte, Nat.reduceLT, Blk.ren, V.ren, renL, frameH, putL]
    exact Weak.sub (by simp [tget])

theorem cmpI_lt (a b : Int) : (cmpI a b < 0) ↔ a < b := by
  unfold cmpI; split
  · simp_all
  · split <;> simp_all

theorem o_Last (L : Lg) (hr : logR L = true) : FSpec Tryz.prog 77 [dLg L] (.own 0 0 (lastW L.1).length) [.dat false 2 ((lastW L.1 ++ List.replicate (L.1.length - (lastW L.1).length) (0, 0)).map dW)] := by
  have hl := (logR_len hr).1
  refine FSpec.of_awp envOf_ok hmix Tryz.func77 rfl (fun args w => Tryz.call77 args w) (by simp [Tryz.f77]) ?_
  simp only [Tryz.f77]
  simp (maxSteps := 2000000) -implicitDefEqProofs only [zz, zE, evop, ev, ofVal, tget, tput, ok, V.isUndef, initT, Ch.on, calleeOf, withArgs, hget, hput, V.cells, ↓reduceIte, Nat.reduceLT, Nat.reduceEqDiff, Nat.reduceAdd, Nat.reduceLeDiff, dLg]
  refine acall_flat (by first | rfl | (simp only [xports, xport, hget]; rfl)) (c_W_Right L) rfl ?_
  try simp (maxSteps := 2000000) -implicitDefEqProofs only [zz, zE, evop, ev, ofVal, tget, tput, ok, V.isUndef, Ch.on, calleeOf, withArgs, told, hget, structAt, Blk.width, resOf, resV, resVs, ↓reduceIte, reduceCtorEq, Nat.reduceLT, Nat.reduceEqDiff, Nat.reduceAdd]
  simp (maxSteps := 2000000) -implicitDefEqProofs only [zz, ↓reduceIte, hr]
  have hw : ∀ x ∈ L.1.map dW, okEl 2 x = true := by
    intro x hx
    obtain ⟨y, _, rfl⟩ := List.mem_map.1 hx
    rfl
  have hrl : L.1.reverse.length = L.1.length := by simp
  refine acall_own (by first | rfl | (simp only [xports, xport, hget]; rfl)) (o_Clone_W (L.1.map dW) (by simp; omega) hw) ?_
  try simp (maxSteps := 2000000) -implicitDefEqProofs only [zz, evop, ev, tget, tput, ok, V.isUndef, Ch.on, calleeOf, withArgs, tids, tidss, freeze, ↓reduceIte, Nat.reduceLT, shiftH, Blk.ren, V.ren]
  refine acall_ref [1] (r_Reverse_W L.1 (by omega)) (by first | rfl | simp [renL, V.ren, frρ, renL_ds]) (by simp) rfl (by simp) (by simp) (by intro j hj; match j, hj with | 0, _ => exact ⟨by simp [hget], rfl⟩) ?_
  try simp (maxSteps := 2000000) -implicitDefEqProofs only [zz, evop, ev, tget, tput, ok, V.isUndef, Ch.on, calleeOf, withArgs, hput, ↓reduceIte, Nat.reduceLT, Nat.reduceEqDiff, Nat.reduceAdd, Blk.ren, V.ren, renL, frameH, putL]
  refine acall_ref [1] ((hrl ▸ r_SortStable L.1.reverse (by omega) 131 (fun x y => cmpI x.1 y.1) c_Last1 (fun x y z h1 h2 => by simp [cmpI_lt] at *; omega) (fun x y h => by simp [cmpI_lt] at *; omega) (fun x => by simp [cmpI_lt]))) (by first | rfl | simp [renL, V.ren, frρ, renL_ds]) (by simp) rfl (by simp) (by simp) (by intro j hj; match j, hj with | 0, _ => exact ⟨by simp [hget], rfl⟩) ?_
  try simp (maxSteps := 2000000) -implicitDefEqProofs only [zz, evop, ev, tget, tput, ok, V.isUndef, Ch.on, calleeOf, withArgs, hput, ↓reduceIte, Nat.reduceLT, Nat.reduceEqDiff, Nat.reduceAdd, Blk.ren, V.ren, renL, frameH, putL]
  have hil : (isort (lts fun x y : Int × Int => cmpI x.1 y.1) L.1.reverse).length = L.1.length := by rw [isort_length]; exact hrl
  refine acall_ref [1] ((hil ▸ r_Compact_W (isort (lts fun x y : Int × Int => cmpI x.1 y.1) L.1.reverse) (by omega) 134 (fun a b => a.1 == b.1) c_Last2)) (by first | rfl | simp [renL, V.ren, frρ, renL_ds]) (by simp) rfl (by simp) (by simp) (by intro j hj; match j, hj with | 0, _ => exact ⟨by simp [hget], rfl⟩) ?_
  try simp (maxSteps := 2000000) -implicitDefEqProofs only [zz, evop, ev, tget, tput, ok, V.isUndef, Ch.on, hput, resOf, resV, resVs, ↓reduceIte, Nat.reduceLT, Nat.reduceAdd, Nat.reduceSub, Blk.ren, V.ren, frameH, putL, frρ]
  have e : lastW L.1 = cmpct (fun a b => a.1 == b.1) (isort (lts fun x y : Int × Int => cmpI x.1 y.1) L.1.reverse) := rfl
  rw [← e]
  refine Weak.pick [1] (by decide) (by simp) rfl (fun q hq => ?_) (fun i hi => ?_)
  · obtain rfl : q = _ := by simpa using hq
    exact .same _
  · match i, hi with
    | 0, _ => exact .dat _ _ _ rfl rfl
    | i + 1, hi => exact absurd hi (by simp)

theorem c_Last (L : Lg) : CSpec Tryz.prog 77 [dLg L] (.vec ((if logR L = true then lastW L.1 else []).map dW)) := by
  cases hr : logR L
  · simp only [Bool.false_eq_true, if_false, List.map_nil]
    refine CSpec.of_awp envOf_ok hmix Tryz.func77 rfl (fun args w => Tryz.call77 args w) (by simp [Tryz.f77]) ?_
    simp only [Tryz.f77]
    simp (maxSteps := 2000000) -implicitDefEqProofs only [zz, zE, evop, ev, ofVal, tget, tput, ok, V.isUndef, initT, Ch.on, calleeOf, withArgs, hget, hput, V.cells, ↓reduceIte, Nat.reduceLT, Nat.reduceEqDiff, Nat.reduceAdd, Nat.reduceLeDiff, dLg]
    refine acall_flat (by first | rfl | (simp only [xports, xport, hget]; rfl)) (c_W_Right L) rfl ?_
    try simp (maxSteps := 2000000) -implicitDefEqProofs only [zz, zE, evop, ev, ofVal, tget, tput, ok, V.isUndef, Ch.on, calleeOf, withArgs, told, xport, hget, structAt, Blk.width, resOf, resV, resVs, ↓reduceIte, reduceCtorEq, Nat.reduceLT, Nat.reduceEqDiff, Nat.reduceAdd]
    simp (maxSteps := 2000000) -implicitDefEqProofs only [zz, ↓reduceIte, hr]
  · simp only [if_true]
    refine (o_Last L hr).cspec ?_
    simp only [xport, hget, List.drop_zero]
    rw [List.map_append, List.take_left' (by simp)]

end Go.Proofs.YtjhfpabldidlgaaGreat.AM

/- The document's Get. -/
set_option linter.all false
set_option maxRecDepth 100000
set_option maxHeartbeats 4000000
namespace Go.Proofs.YtjhfpabldidlgaaGreat.AM
open Go Go.RowKit

end Go.Proofs.YtjhfpabldidlgaaGreat.AM

/- The document's Last. -/
set_option linter.all false
set_option maxRecDepth 100000
set_option maxHeartbeats 4000000
namespace Go.Proofs.YtjhfpabldidlgaaGreat.AM
open Go Go.RowKit

end Go.Proofs.YtjhfpabldidlgaaGreat.AM

/- Which cells were read: in order. -/
set_option linter.all false
set_option maxRecDepth 100000
set_option maxHeartbeats 8000000
namespace Go.Proofs.YtjhfpabldidlgaaGreat.AM
open Go Go.RowKit

def cellsL (l : List Rd) : List Int := l.map fun r => r.1
def srtC (l : List Rd) : List Int := srtI (cellsL l)
theorem c_reads_Cells (l : List Rd) (hl : l.length ≤ 1000000) (hr : readsR l = true) : CSpec Tryz.prog 76 [.vec (l.map dRd)] (.vec ((srtC l).map dI)) := by
  have hcl : ∀ i, i ≤ l.length → (cellsL (l.take i)).length = i := fun i hi => by simp [cellsL]; omega
  refine CSpec.of_awp envOf_ok hmix Tryz.func76 rfl (fun args w => Tryz.call76 args w) (by simp [Tryz.f76]) ?_
  simp only [Tryz.f76]
  simp (maxSteps := 2000000) -implicitDefEqProofs only [zz, zE, evop, ev, ofVal, tget, tput, ok, V.isUndef, initT, Ch.on, sliceOf, lenOf, ↓reduceIte, reduceCtorEq, Nat.reduceLT]
  refine wloop_count l.length (fun i => [(8, .d (.int .i64 i)), (7, .d (.int .i64 l.length)), (6, .d (.vec (l.map dRd))), (0, .d (.vec (l.map dRd))), (3, .own 0 0 i)]) (fun i => [.dat false 1 ((cellsL (l.take i)).map dI)]) (fun _ => True) trivial ?_ (fun i hi _ => ?_) (fun _ => ?_)
  · refine Weak.pick [7] (by simp) (by simp) rfl (fun q hq => ?_) (fun i hi => ?_)
    · simp only [List.mem_cons, List.not_mem_nil, or_false] at hq
      rcases hq with rfl | rfl | rfl | rfl | rfl
      · exact .same _
      · exact .same _
      · exact .same _
      · exact .same _
      · exact .nils 0 1 rfl
    · obtain rfl : i = 0 := by simpa using hi
      exact .virt 1 rfl rfl
  · have hx : l[i]? = some l[i] := List.getElem?_eq_getElem hi
    have h' : ((i : Int) < (l.length : Int)) := by omega
    have hw : IntKind.i64.wrap ((i : Int) + 1) = ((i + 1 : Nat) : Int) := by rw [wrap_in (by omega)]; omega
    have hT : cellsL (l.take (i + 1)) = cellsL (l.take i) ++ [l[i].1] := by unfold cellsL; rw [List.take_succ, hx, List.map_append]; rfl
    have e6 : List.take i ((cellsL (l.take i)).map dI) = (cellsL (l.take i)).map dI := by rw [List.take_of_length_le]; rw [List.length_map, hcl i (by omega)]; exact Nat.le_refl _
    simp (maxSteps := 2000000) -implicitDefEqProofs only [zz, zE, evop, ev, ofVal, tget, tput, ok, V.isUndef, intBin, Ch.on, told, hget, hput, V.cells, D.cells, V.one, V.toD, loadD, structAt, sliceOf, partsD, Blk.width, elems, splice, ↓reduceIte, reduceCtorEq, Nat.reduceLT, Nat.reduceEqDiff, Nat.reduceAdd, Nat.reduceMul, Nat.reduceLeDiff, nilTest, dRd, h', List.getElem?_map, hx, Option.map_some, Int.natCast_nonneg, hw]
    refine ⟨⟨by omega, okEl_I [l[i].1]⟩, ?_⟩
    rw [hT, e6, List.map_append]
    refine Weak.pick [3] (by decide) (by simp) rfl (fun q hq => ?_) (fun i hi => ?_)
    · simp only [List.mem_cons, List.not_mem_nil, or_false] at hq
      rcases hq with rfl | rfl | rfl | rfl | rfl <;> exact .same _
    · match i, hi with
      | 0, _ => exact .dat _ _ _ rfl rfl
      | i + 1, hi => exact absurd hi (by simp)
  · have h' : ¬ ((l.length : Int) < (l.length : Int)) := by omega
    rw [List.take_length]
    simp (maxSteps := 2000000) -implicitDefEqProofs only [zz, evop, ev, tget, tput, ok, V.isUndef, intBin, Ch.on, calleeOf, withArgs, told, ↓reduceIte, reduceCtorEq, Nat.reduceLT, Nat.reduceEqDiff, nilTest, h']
    refine acall_flat (by first | rfl | (simp only [xports, xport, hget]; rfl)) (c_reads_Right l hl) rfl ?_
    try simp (maxSteps := 2000000) -implicitDefEqProofs only [zz, evop, ev, ofVal, tget, tput, ok, V.isUndef, Ch.on, calleeOf, withArgs, told, xport, resOf, resV, resVs, ↓reduceIte, reduceCtorEq, Nat.reduceLT, Nat.reduceEqDiff]
    simp (maxSteps := 2000000) -implicitDefEqProofs only [zz, ↓reduceIte, hr]
    have hs := r_Sort_int (cellsL l) (by simp [cellsL]; omega)
    have hcl' : (cellsL l).length = l.length := by simp [cellsL]
    rw [hcl'] at hs
    refine acall_ref [0] (hs) (by first | rfl | simp [renL, V.ren, frρ, renL_ds]) (by simp) rfl (by simp) (by simp) (by intro j hj; match j, hj with | 0, _ => exact ⟨by simp [hget], rfl⟩) ?_
    try simp (maxSteps := 2000000) -implicitDefEqProofs only [zz, evop, ev, tget, tput, ok, V.isUndef, Ch.on, xport, hget, hput, resOf, resV, resVs, ↓reduceIte, reduceCtorEq, Nat.reduceLT, Nat.reduceEqDiff, Blk.ren, V.ren, renL, frameH, putL]
    rw [List.take_of_length_le (by rw [List.length_map]; unfold srtI; simp [cellsL])]
    rfl

/-! ### the document's -/
end Go.Proofs.YtjhfpabldidlgaaGreat.AM

/- Last, Same; the fixed answer of layer 6. -/
set_option linter.all false
set_option maxRecDepth 100000
set_option maxHeartbeats 4000000
namespace Go.Proofs.YtjhfpabldidlgaaGreat.AM
open Go Go.RowKit

end Go.Proofs.YtjhfpabldidlgaaGreat.AM

/- A stepper's parts. -/
set_option linter.all false
set_option maxRecDepth 100000
set_option maxHeartbeats 4000000
namespace Go.Proofs.YtjhfpabldidlgaaGreat.AM
open Go Go.RowKit

/-- A stepper: a try, and what it looks at. -/
def bX (t : Ty) (h : List (Bool × Int)) (r : List (Int × Int)) : Blk := .box false [.d (.int .i64 t.who), .d (.int .i64 t.snap), .d (.int .i64 t.pc), .d (.vec (t.regs.map dI)), .d (.vec (t.path.map dI)), .d (.vec (t.reads.map dRd)), .d (.vec (t.log.1.map dW)), .d (.vec (t.log.2.map dI)), .d (.vec (t.frames.map dFr)), .d (.int .i64 t.kind), .d (.int .i64 t.why), .d (.vec (h.map dC)), .d (.vec (r.map dW))]

theorem r_x_end (t : Ty) (h : List (Bool × Int)) (r : List (Int × Int)) (k w : Int) : RSpec Tryz.prog 118 [.ptr 0 0 0, .d (.int .i64 k), .d (.int .i64 w)] [bX t h r] (.tuple []) [bX (endT t k w) h r] := by
  refine RSpec.of_awp envOf_ok hmix Tryz.func118 rfl (fun args w => Tryz.call118 args w) (by simp [Tryz.f118]) ?_
  simp only [Tryz.f118]
  simp (maxSteps := 2000000) -implicitDefEqProofs only [zz, evop, ev, tget, tput, ok, V.isUndef, Ch.on, hget, isPtr, Blk.width, ↓reduceIte, reduceCtorEq, Nat.reduceLT, Nat.reduceEqDiff, Nat.reduceAdd, initV]
  unfold bX endT
  simp (maxSteps := 2000000) -implicitDefEqProofs only [zz, zE, evop, ev, tget, tput, ok, Ch.on, hget, hput, V.cells, V.one, structAt, isPtr, Blk.width, splice, resOf, resVs, ↓reduceIte, reduceCtorEq, Nat.reduceLT, Nat.reduceEqDiff, Nat.reduceAdd, Nat.reduceLeDiff]
  exact Weak.trimsM 1 (by simp) rfl (by simp [tget, V.lower, lowerL]) (by simp [Blk.lower, lowerL, V.lower])

theorem r_x_tell (t : Ty) (h : List (Bool × Int)) (r : List (Int × Int)) (x : List (Int × Int)) (hl : h.length ≤ 1000000) (htl : x.length ≤ 1000000) : RSpec Tryz.prog 115 [.ptr 0 0 0, .d (.vec (x.map dW))] [bX t h r] (.d (.int .i64 (tellT t h x))) [bX t h r] := by
  refine RSpec.of_awp envOf_ok hmix Tryz.func115 rfl (fun args w => Tryz.call115 args w) (by simp [Tryz.f115]) ?_
  simp only [Tryz.f115]
  simp (maxSteps := 2000000) -implicitDefEqProofs only [zz, evop, ev, ofVal, tput, ok, V.isUndef, Ch.on, ↓reduceIte, Nat.reduceLT, initV]
  unfold bX
  refine wdraw_plan [⟨[], false, [9, 10, 11, 12, 13, 14, 15, 16, 17], [], false⟩, ⟨[], false, [8, 13, 14, 15, 16, 17], [0], false⟩, ⟨[1], false, [8, 13, 14, 15, 16, 17], [0], false⟩, ⟨[1, 2], false, [8, 13, 14, 15, 16, 17], [0], false⟩, ⟨[1, 2, 3], false, [8, 13, 14, 15, 16, 17], [0], false⟩, ⟨[], false, [8, 9, 10, 11, 12], [0, 1, 2, 3, 4], false⟩, ⟨[5], false, [8, 9, 10, 11, 12], [0, 1, 2, 3, 4], false⟩, ⟨[5, 6], false, [8, 9, 10, 11, 12], [0, 1, 2, 3, 4], false⟩, ⟨[5, 6, 7], false, [8, 9, 10, 11, 12], [0, 1, 2, 3, 4], false⟩, ⟨[5, 6, 7, 8], false, [8, 9, 10, 11, 12], [0, 1, 2, 3, 4], false⟩, ⟨[0, 1, 2, 3, 4, 5, 6, 7, 8, 9], true, [], [], false⟩, ⟨[0, 1, 2, 3, 4, 5, 6, 7, 8, 9, 10], true, [], [], false⟩, ⟨[0, 1, 2, 3, 4, 5, 6, 7, 8, 9, 10, 11], false, [20], [], false⟩, ⟨[0, 1, 2, 3, 4, 5, 6, 7, 8, 9, 10, 11], false, [5, 19], [12], false⟩, ⟨[0, 1, 2, 3, 4, 5, 6, 7, 8, 9, 10, 11, 12], false, [20], [13], false⟩, ⟨[0, 1, 2, 3, 4, 5, 6, 7, 8, 9, 10, 11, 12, 13, 14], true, [], [], false⟩] (by decide) ?_
  simp (maxSteps := 2000000) -implicitDefEqProofs only [zz, zE, evop, ev, ofVal, tget, tput, ok, V.isUndef, calleeOf, withArgs, hget, hput, D.cells, loadD, structAt, isPtr, Blk.width, ↓reduceIte, reduceCtorEq, Nat.reduceLT, Nat.reduceEqDiff, Nat.reduceAdd, Nat.reduceLeDiff]
  have he := c_Eval h t.regs x hl htl
  refine acall_flat (by first | rfl | (simp only [xports, xport, hget]; rfl)) (he) rfl ?_
  try simp (maxSteps := 2000000) -implicitDefEqProofs only [zz, evop, ev, tget, tput, ok, V.isUndef, Ch.on, hput, resOf, resV, resVs, ↓reduceIte, Nat.reduceLT, Nat.reduceEqDiff, Nat.reduceAdd, Nat.reduceSub, Nat.reduceLeDiff]
  exact Weak.trimsM 1 (by simp) rfl (by simp [tget, V.lower, tellT]) (by simp [Blk.lower, lowerL, V.lower])

theorem r_x_put (t : Ty) (h : List (Bool × Int)) (r : List (Int × Int)) (a v : Int) (hreg : t.regs.length = 8) (ha : 0 ≤ a ∧ a < 8) (hpc : 0 ≤ t.pc ∧ t.pc ≤ 1000000) : RSpec Tryz.prog 114 [.ptr 0 0 0, .d (.int .i64 a), .d (.int .i64 v)] [bX t h r] (.tuple []) [bX (putT t a v) h r] := by
  refine RSpec.of_awp envOf_ok hmix Tryz.func114 rfl (fun args w => Tryz.call114 args w) (by simp [Tryz.f114]) ?_
  simp only [Tryz.f114]
  simp (maxSteps := 2000000) -implicitDefEqProofs only [zz, evop, ev, tget, tput, ok, V.isUndef, Ch.on, hget, isPtr, Blk.width, ↓reduceIte, reduceCtorEq, Nat.reduceLT, Nat.reduceAdd, initV]
  unfold bX
  simp (maxSteps := 2000000) -implicitDefEqProofs only [zz, zE, evop, ev, tget, tput, ok, V.isUndef, Ch.on, calleeOf, withArgs, hget, structAt, Blk.width, ↓reduceIte, reduceCtorEq, Nat.reduceLT, Nat.reduceAdd]
  have hc := o_Clone_int (t.regs.map dI) (by simp; omega) (okEl_I _)
  rw [List.length_map, hreg] at hc
  have hwp : IntKind.i64.wrap (t.pc + 1) = t.pc + 1 := by rw [wrap_in (by omega)]
  refine acall_own (by first | rfl | (simp only [xports, xport, hget]; rfl)) (hc) ?_
  try simp (maxSteps := 2000000) -implicitDefEqProofs only [zz, zE, evop, ev, tget, tput, ok, V.isUndef, Ch.on, tids, tidss, hget, hput, freeze, V.cells, D.cells, V.one, V.clo, clos, structAt, isPtr, Blk.width, splice, D.over, ↓reduceIte, reduceCtorEq, Nat.reduceLT, Nat.reduceEqDiff, Nat.reduceAdd, Nat.reduceLeDiff, shiftH, Blk.ren, V.ren]
  have hx : t.regs[a.toNat]? = some (t.regs[a.toNat]'(by omega)) := List.getElem?_eq_getElem (by omega)
  simp (maxSteps := 2000000) -implicitDefEqProofs only [zz, zE, evop, ev, ofVal, tget, tput, ok, V.isUndef, intBin, Ch.on, hget, hput, V.cells, V.one, structAt, isPtr, Blk.width, splice, resOf, resVs, ↓reduceIte, reduceCtorEq, Nat.reduceLT, Nat.reduceEqDiff, Nat.reduceAdd, Nat.reduceLeDiff, nilTest, dI, List.getElem?_map, hx, Option.map_some, hwp]
  refine ⟨by omega, ?_⟩
  have er : List.take 8 ((t.regs.map dI).set a.toNat (.int .i64 v)) = (t.regs.set a.toNat v).map dI := by
    rw [List.map_set, List.take_of_length_le (by simp; omega)]; rfl
  refine Weak.close [1] 1 (by simp) ?_ (by simp [tget, sealF, V.lower, lowerL]) (by simp [Blk.lower, lowerL, V.lower])
  simp [sealH, sealB, sealF, freeze, hput, hget, Blk.ice, er, putT]

theorem r_x_store (t : Ty) (h : List (Bool × Int)) (r : List (Int × Int)) (x : St) (hl : h.length ≤ 1000000) (htl : x.t.length ≤ 1000000) (h1 : t.log.1.length ≤ 1000000) (h2 : t.log.2.length ≤ 1000000) (hpc : 0 ≤ t.pc ∧ t.pc ≤ 1000000) :
    RSpec Tryz.prog 116 [.ptr 0 0 0, .d (dS x)] [bX t h r] (.tuple []) [bX (storeT t x h) h r] := by
  refine RSpec.of_awp envOf_ok hmix Tryz.func116 rfl (fun args w => Tryz.call116 args w) (by simp [Tryz.f116]) ?_
  simp only [Tryz.f116]
  simp (maxSteps := 2000000) -implicitDefEqProofs only [zz, zE, evop, ev, tget, tput, V.isUndef, Ch.on, hput, V.cells, ↓reduceIte, reduceCtorEq, Nat.reduceLT, initV, dS]
  unfold bX
  refine wdraw_plan [⟨[], false, [11, 12], [], false⟩, ⟨[0], false, [11, 12], [], false⟩, ⟨[0, 1], false, [11, 12], [], false⟩, ⟨[0, 1, 2], false, [11, 12], [], false⟩, ⟨[], false, [7, 8, 9, 10], [0, 1, 2, 3], false⟩, ⟨[4], false, [7, 8, 9, 10], [0, 1, 2, 3], false⟩, ⟨[0, 1, 2, 3, 4, 5], true, [], [], false⟩, ⟨[0, 1, 2, 3, 4, 5, 6], true, [], [], false⟩, ⟨[0, 1, 2, 3, 4, 5, 6, 7], false, [15], [], false⟩, ⟨[0, 1, 2, 3, 4, 5, 6, 7], false, [4, 14], [8], false⟩, ⟨[0, 1, 2, 3, 4, 5, 6, 7, 8], false, [15], [9], false⟩, ⟨[0, 1, 2, 3, 4, 5, 6, 7, 8, 9, 10], true, [], [], false⟩] (by decide) ?_
  simp (maxSteps := 2000000) -implicitDefEqProofs only [zz, zE, evop, ev, ofVal, tget, tput, ok, V.isUndef, calleeOf, withArgs, hget, hput, D.cells, loadD, structAt, isPtr, Blk.width, ↓reduceIte, reduceCtorEq, Nat.reduceLT, Nat.reduceEqDiff, Nat.reduceAdd, Nat.reduceLeDiff]
  refine acall_flat (by first | rfl | (simp only [xports, xport, hget]; rfl)) (c_heap_Get h x.a hl) rfl ?_
  try simp (maxSteps := 2000000) -implicitDefEqProofs only [zz, zE, evop, ev, ofVal, tget, tput, ok, V.isUndef, intBin, Ch.on, calleeOf, withArgs, told, hget, hput, structAt, Blk.width, ↓reduceIte, reduceCtorEq, Nat.reduceLT, Nat.reduceEqDiff, Nat.reduceAdd, Nat.reduceSub, Nat.reduceLeDiff, nilTest]
  have hwp : IntKind.i64.wrap (t.pc + 1) = t.pc + 1 := by rw [wrap_in (by omega)]
  by_cases h0 : (heapGet h x.a).2 = 0
  case neg =>
    have e : ((heapGet h x.a).2 != 0) = true := by simpa using h0
    have hst : storeT t x h = endT t 4 x.a := by unfold storeT; rw [if_pos h0]
    rw [hst]
    have hr := r_x_end t h r 4 x.a
    unfold bX at hr
    simp (maxSteps := 2000000) -implicitDefEqProofs only [↓reduceIte, e]
    refine acall_ref [0] (hr) (by first | rfl | simp [renL, V.ren, frρ, renL_ds]) (by simp) rfl (by simp) (by simp) (by intro j hj; match j, hj with | 0, _ => exact ⟨by simp [hget], rfl⟩) ?_
    try simp (maxSteps := 2000000) -implicitDefEqProofs only [zz, tput, hput, resOf, resVs, ↓reduceIte, Nat.reduceLT, Nat.reduceAdd, Blk.ren, V.ren, renL, frameH, putL]
    exact Weak.trimsM 1 (by simp) rfl (by simp [tget, V.lower, lowerL]) (by simp [Blk.lower, lowerL, V.lower])
  have e : ((heapGet h x.a).2 != 0) = false := by simpa using h0
  have hn := not_not_intro h0
  have hst : storeT t x h = { t with log := (logPut t.log (x.a, tellT t h x.t)).1, pc := t.pc + 1 } := by unfold storeT; rw [if_neg hn]
  rw [hst]
  simp (maxSteps := 2000000) -implicitDefEqProofs only [zz, ↓reduceIte, e]
  refine wdraw_plan [⟨[], false, [22, 23, 24, 25, 26, 27, 28, 29, 30, 31, 32, 33, 34, 35, 36, 37, 38, 39, 40, 41], [], true⟩, ⟨[], false, [23, 29, 30, 31, 32, 33, 34, 35], [0], false⟩, ⟨[1], false, [23, 29, 30, 31, 32, 33, 34, 35], [0], false⟩, ⟨[1, 2], false, [23, 29, 30, 31, 32, 33, 34, 35], [0], false⟩, ⟨[1, 2, 3], false, [23, 29, 30, 31, 32, 33, 34, 35], [0], false⟩, ⟨[1, 2, 3, 4], false, [23, 29, 30, 31, 32, 33, 34, 35], [0], false⟩, ⟨[], false, [23, 24, 25, 26, 27, 28, 31, 32, 33, 34], [0, 1, 2, 3, 4, 5], false⟩, ⟨[6], false, [23, 24, 25, 26, 27, 28, 31, 32, 33, 34], [0, 1, 2, 3, 4, 5], false⟩, ⟨[], false, [23, 24, 25, 26, 27, 28, 29, 30, 32, 33], [0, 1, 2, 3, 4, 5, 6, 7], false⟩, ⟨[], false, [23, 24, 25, 26, 27, 28, 29, 30, 31], [0, 1, 2, 3, 4, 5, 6, 7, 8], false⟩, ⟨[9], false, [23, 24, 25, 26, 27, 28, 29, 30, 31], [0, 1, 2, 3, 4, 5, 6, 7, 8], false⟩, ⟨[8, 9, 10], false, [23, 24, 25, 26, 27, 28, 29, 30], [0, 1, 2, 3, 4, 5, 6, 7], false⟩, ⟨[6, 7, 8, 9, 10, 11], false, [23, 24, 25, 26, 27, 28], [0, 1, 2, 3, 4, 5], false⟩, ⟨[1, 2, 3, 4, 5, 6, 7, 8, 9, 10, 11, 12], true, [23], [], false⟩, ⟨[1, 2, 3, 4, 5, 6, 7, 8, 9, 10, 11, 12, 13], false, [23], [0], false⟩, ⟨[1, 2, 3, 4, 5, 6, 7, 8, 9, 10, 11, 12, 13, 14], false, [23, 38], [0], false⟩, ⟨[1, 2, 3, 4, 5, 6, 7, 8, 9, 10, 11, 12, 13, 14], false, [23, 37, 38, 39, 40, 41], [0, 15], true⟩, ⟨[0, 1, 2, 3, 4, 5, 6, 7, 8, 9, 10, 11, 12, 13, 14, 15], false, [38], [16], false⟩, ⟨[0, 1, 2, 3, 4, 5, 6, 7, 8, 9, 10, 11, 12, 13, 14, 15, 17], false, [38], [16], false⟩, ⟨[0, 1, 2, 3, 4, 5, 6, 7, 8, 9, 10, 11, 12, 13, 14, 15, 17, 18], false, [38], [16], false⟩, ⟨[0, 1, 2, 3, 4, 5, 6, 7, 8, 9, 10, 11, 12, 13, 14, 15, 17, 18, 19], true, [38], [], false⟩] (by decide) ?_
  simp (maxSteps := 2000000) -implicitDefEqProofs only [zz, zE, evop, ev, ofVal, tget, tput, ok, V.isUndef, calleeOf, withArgs, hget, hput, V.cells, D.cells, loadD, structAt, partsV, isPtr, Blk.width, splice, ↓reduceIte, reduceCtorEq, Nat.reduceLT, Nat.reduceEqDiff, Nat.reduceAdd, Nat.reduceLeDiff]
  have hr := r_x_tell t h r x.t hl htl
  unfold bX at hr
  refine dcall_ref0 [0] (hr) (fun k => by first | rfl | simp [renL, V.ren, frρ, renL_ds]) (fun k => rfl) (by simp) rfl (by intro j hj; match j, hj with | 0, _ => exact ⟨by simp [hget], by simp [hget, frρ], fun k => rfl⟩) ?_
  try simp (maxSteps := 2000000) -implicitDefEqProofs only [zz, ↓reduceIte, Nat.reduceAdd]
  have hp := c_W_Put t.log (x.a, tellT t h x.t) h1 h2
  unfold dLE at hp
  refine acall_ice (by first | rfl | (simp only [xports, xport, hget]; rfl)) (hp) ?_
  try simp (maxSteps := 2000000) -implicitDefEqProofs only [zz, zE, evop, ev, ofVal, tget, tput, ok, V.isUndef, intBin, Ch.on, tids, tidss, hget, hput, freeze, V.cells, D.cells, V.one, structAt, isPtr, Blk.width, splice, D.over, resOf, resVs, ↓reduceIte, reduceCtorEq, Nat.reduceLT, Nat.reduceEqDiff, Nat.reduceAdd, Nat.reduceSub, Nat.reduceLeDiff, nilTest, dLg]
  simp (maxSteps := 2000000) -implicitDefEqProofs only [hwp]
  exact Weak.trimsM 1 (by simp) rfl (by simp [tget, V.lower, lowerL]) (by simp [Blk.lower, lowerL, V.lower])
end Go.Proofs.YtjhfpabldidlgaaGreat.AM

/- A stepper: either, again. -/
set_option linter.all false
set_option maxRecDepth 100000
set_option maxHeartbeats 8000000
namespace Go.Proofs.YtjhfpabldidlgaaGreat.AM
open Go Go.RowKit

theorem okEl_Fr (l : List Fr) : ∀ e ∈ l.map dFr, okEl 4 e = true := by
  intro e he
  obtain ⟨w, _, rfl⟩ := List.mem_map.1 he
  rfl

theorem o_Clone_Fr (els : List D) (h1 : els.length * 48 ≤ 140737488355328) (h2 : ∀ e ∈ els, okEl 4 e = true) : FSpec Tryz.prog 176 [.vec els] (.own 0 0 els.length) [.dat false 4 els] := by
  refine FSpec.of_awp envOf_ok hmix Tryz.func176 rfl (fun args w => Tryz.call176 args w) (by simp [Tryz.f176]) ?_
  simp only [Tryz.f176]
  simp (maxSteps := 2000000) -implicitDefEqProofs only [zz, zE, evop, ev, ofVal, tget, tput, ok, V.isUndef, initT, Ch.on, told, hget, hput, V.cells, V.isAgg, V.clo, clos, sliceOf, partsD, elems, resOf, resV, resVs, ↓reduceIte, reduceCtorEq, Nat.reduceLT, Nat.reduceEqDiff, Nat.reduceMul, Nat.reduceLeDiff, nilTest]
  refine ⟨fun h => ?_, ⟨h1, h2⟩, ?_⟩
  · subst h
    refine Weak.pick [7] (by simp) (by simp) rfl (fun q hq => ?_) (fun i hi => ?_)
    · obtain rfl : q = _ := by simpa using hq
      exact .nils 0 4 rfl
    · obtain rfl : i = 0 := by simpa using hi
      exact .virt 4 rfl rfl
  · refine Weak.pick [1] (by simp) (by simp) rfl (fun q hq => ?_) (fun i hi => ?_)
    · obtain rfl : q = _ := by simpa using hq
      exact .same _
    · obtain rfl : i = 0 := by simpa using hi
      exact .dat false 4 els rfl rfl

theorem r_x_either (t : Ty) (h : List (Bool × Int)) (r : List (Int × Int)) (x : St) (h1 : t.log.1.length ≤ 1000000) (h2 : t.log.2.length ≤ 1000000) (hpc : 0 ≤ t.pc ∧ t.pc ≤ 1000000) (ha : 0 ≤ x.a ∧ x.a ≤ 1000) (hb : 0 ≤ x.b ∧ x.b ≤ 1000)
    (hf : t.frames.length ≤ 1000000) (hp : t.path.length ≤ 1000000) :
    RSpec Tryz.prog 119 [.ptr 0 0 0, .d (dS x)] [bX t h r] (.tuple []) [bX (eiT t x) h r] := by
  refine RSpec.of_awp envOf_ok hmix Tryz.func119 rfl (fun args w => Tryz.call119 args w) (by simp [Tryz.f119]) ?_
  simp only [Tryz.f119]
  simp (maxSteps := 2000000) -implicitDefEqProofs only [zz, zE, evop, ev, tget, tput, ok, V.isUndef, Ch.on, hget, hput, V.cells, isPtr, Blk.width, ↓reduceIte, reduceCtorEq, Nat.reduceLT, initV, dS]
  unfold bX
  simp (maxSteps := 2000000) -implicitDefEqProofs only [zz, zE, evop, ev, tget, tput, ok, Ch.on, calleeOf, withArgs, hget, structAt, Blk.width, ↓reduceIte, reduceCtorEq, Nat.reduceLT, Nat.reduceAdd, Nat.reduceLeDiff]
  have w1 : IntKind.i64.wrap (t.pc + 1) = t.pc + 1 := by rw [wrap_in (by omega)]
  have w2 : IntKind.i64.wrap (t.pc + 1 + x.a) = t.pc + 1 + x.a := by rw [wrap_in (by omega)]
  have w3 : IntKind.i64.wrap (t.pc + 1 + x.a + x.b) = t.pc + 1 + x.a + x.b := by rw [wrap_in (by omega)]
  have hm := c_W_Mark t.log h1 h2
  unfold dLE at hm
  refine acall_ice (by first | rfl | (simp only [xports, xport, hget]; rfl)) (hm) ?_
  try simp (maxSteps := 2000000) -implicitDefEqProofs only [zz, zE, evop, ev, tget, tput, ok, V.isUndef, Ch.on, tids, tidss, hget, hput, freeze, V.cells, V.one, structAt, isPtr, Blk.width, splice, ↓reduceIte, reduceCtorEq, Nat.reduceLT, Nat.reduceEqDiff, Nat.reduceAdd, Nat.reduceLeDiff, dLg]
  refine wdraw_plan [⟨[], false, [24, 25], [], false⟩, ⟨[0], false, [24, 25], [], false⟩, ⟨[0, 1], false, [24, 25], [], false⟩, ⟨[0, 1, 2], false, [24, 25], [], false⟩, ⟨[0, 1, 2, 3], false, [24, 25], [], false⟩, ⟨[0, 1, 2, 3, 4], false, [24, 25], [], false⟩, ⟨[], false, [18, 19, 20, 21, 22, 23], [0, 1, 2, 3, 4, 5], false⟩, ⟨[6], false, [18, 19, 20, 21, 22, 23], [0, 1, 2, 3, 4, 5], false⟩, ⟨[0, 1, 2, 3, 4, 5, 6, 7], true, [], [], false⟩, ⟨[0, 1, 2, 3, 4, 5, 6, 7, 8], true, [], [], false⟩] (by decide) ?_
  simp (maxSteps := 2000000) -implicitDefEqProofs only [zz, zE, evop, ev, ofVal, tget, tput, ok, V.isUndef, intBin, Ch.on, hget, hput, V.cells, D.cells, V.isAgg, loadD, structAt, isPtr, Blk.width, ↓reduceIte, reduceCtorEq, Nat.reduceLT, Nat.reduceEqDiff, Nat.reduceAdd, Nat.reduceLeDiff, w1, w2]
  refine wdraw_plan [⟨[], false, [27, 28, 29, 30, 31, 32, 33, 34, 35, 36, 37, 38, 39, 40, 41, 42, 43, 44, 45, 46, 47, 48, 49, 50, 51, 52, 53, 54, 55], [], true⟩, ⟨[], false, [27, 34, 35, 36, 37, 38, 39, 40, 41, 42, 43, 44, 45, 46, 47, 48, 49, 50, 51], [0], false⟩, ⟨[1], false, [27, 34, 35, 36, 37, 38, 39, 40, 41, 42, 43, 44, 45, 46, 47, 48, 49, 50, 51], [0], false⟩, ⟨[1, 2], false, [27, 34, 35, 36, 37, 38, 39, 40, 41, 42, 43, 44, 45, 46, 47, 48, 49, 50, 51], [0], false⟩, ⟨[1, 2, 3], false, [27, 34, 35, 36, 37, 38, 39, 40, 41, 42, 43, 44, 45, 46, 47, 48, 49, 50, 51], [0], false⟩, ⟨[1, 2, 3, 4], false, [27, 34, 35, 36, 37, 38, 39, 40, 41, 42, 43, 44, 45, 46, 47, 48, 49, 50, 51], [0], false⟩, ⟨[1, 2, 3, 4, 5], false, [27, 34, 35, 36, 37, 38, 39, 40, 41, 42, 43, 44, 45, 46, 47, 48, 49, 50, 51], [0], false⟩, ⟨[], false, [27, 28, 29, 30, 31, 32, 33, 35, 36, 37, 38, 39, 40, 41, 42, 43, 44, 45, 46, 47, 48, 49], [0, 1, 2, 3, 4, 5, 6], false⟩, ⟨[], false, [27, 28, 29, 30, 31, 32, 33, 34, 36, 37, 39, 40, 41, 42, 43, 44, 45, 46, 47, 48, 49], [0, 1, 2, 3, 4, 5, 6, 7], false⟩, ⟨[], false, [27, 28, 29, 30, 31, 32, 33, 34, 35, 39, 40, 41, 42, 43, 44, 45, 46, 47, 48, 49], [0, 1, 2, 3, 4, 5, 6, 7, 8], false⟩, ⟨[9], false, [27, 28, 29, 30, 31, 32, 33, 34, 35, 39, 40, 41, 42, 43, 44, 45, 46, 47, 48, 49], [0, 1, 2, 3, 4, 5, 6, 7, 8], false⟩, ⟨[8, 9, 10], false, [27, 28, 29, 30, 31, 32, 33, 34, 39, 40, 41, 42, 43, 44, 45, 46, 47, 48, 49], [0, 1, 2, 3, 4, 5, 6, 7], false⟩, ⟨[], false, [27, 28, 29, 30, 31, 32, 33, 34, 35, 36, 37, 38, 45, 46, 47, 48, 49], [0, 1, 2, 3, 4, 5, 6, 7, 8, 9, 10, 11], false⟩, ⟨[12], false, [27, 28, 29, 30, 31, 32, 33, 34, 35, 36, 37, 38, 45, 46, 47, 48, 49], [0, 1, 2, 3, 4, 5, 6, 7, 8, 9, 10, 11], false⟩, ⟨[12, 13], false, [27, 28, 29, 30, 31, 32, 33, 34, 35, 36, 37, 38, 45, 46, 47, 48, 49], [0, 1, 2, 3, 4, 5, 6, 7, 8, 9, 10, 11], false⟩, ⟨[12, 13, 14], false, [27, 28, 29, 30, 31, 32, 33, 34, 35, 36, 37, 38, 45, 46, 47, 48, 49], [0, 1, 2, 3, 4, 5, 6, 7, 8, 9, 10, 11], false⟩, ⟨[12, 13, 14, 15], false, [27, 28, 29, 30, 31, 32, 33, 34, 35, 36, 37, 38, 45, 46, 47, 48, 49], [0, 1, 2, 3, 4, 5, 6, 7, 8, 9, 10, 11], false⟩, ⟨[12, 13, 14, 15, 16], false, [27, 28, 29, 30, 31, 32, 33, 34, 35, 36, 37, 38, 45, 46, 47, 48, 49], [0, 1, 2, 3, 4, 5, 6, 7, 8, 9, 10, 11], false⟩, ⟨[], false, [27, 28, 29, 30, 31, 32, 33, 34, 35, 36, 37, 38, 39, 40, 41, 42, 43, 44], [0, 1, 2, 3, 4, 5, 6, 7, 8, 9, 10, 11, 12, 13, 14, 15, 16, 17], false⟩, ⟨[18], false, [27, 28, 29, 30, 31, 32, 33, 34, 35, 36, 37, 38, 39, 40, 41, 42, 43, 44], [0, 1, 2, 3, 4, 5, 6, 7, 8, 9, 10, 11, 12, 13, 14, 15, 16, 17], false⟩, ⟨[18, 19], false, [27, 28, 29, 30, 31, 32, 33, 34, 35, 36, 37, 38, 39, 40, 41, 42, 43, 44], [0, 1, 2, 3, 4, 5, 6, 7, 8, 9, 10, 11, 12, 13, 14, 15, 16, 17], false⟩, ⟨[18, 19, 20], false, [27, 28, 29, 30, 31, 32, 33, 34, 35, 36, 37, 38, 39, 40, 41, 42, 43, 44], [0, 1, 2, 3, 4, 5, 6, 7, 8, 9, 10, 11, 12, 13, 14, 15, 16, 17], false⟩, ⟨[18, 19, 20, 21], false, [27, 28, 29, 30, 31, 32, 33, 34, 35, 36, 37, 38, 39, 40, 41, 42, 43, 44], [0, 1, 2, 3, 4, 5, 6, 7, 8, 9, 10, 11, 12, 13, 14, 15, 16, 17], false⟩, ⟨[7, 8, 9, 10, 11, 12, 13, 14, 15, 16, 17, 18, 19, 20, 21, 22], false, [27, 28, 29, 30, 31, 32, 33], [0, 1, 2, 3, 4, 5, 6], false⟩, ⟨[7, 8, 9, 10, 11, 12, 13, 14, 15, 16, 17, 18, 19, 20, 21, 22, 23], false, [27, 28, 29, 30, 31, 32, 33], [0, 1, 2, 3, 4, 5, 6], false⟩, ⟨[1, 2, 3, 4, 5, 6, 7, 8, 9, 10, 11, 12, 13, 14, 15, 16, 17, 18, 19, 20, 21, 22, 23, 24], true, [27], [], false⟩, ⟨[0, 1, 2, 3, 4, 5, 6, 7, 8, 9, 10, 11, 12, 13, 14, 15, 16, 17, 18, 19, 20, 21, 22, 23, 24, 25], true, [], [], false⟩, ⟨[0, 1, 2, 3, 4, 5, 6, 7, 8, 9, 10, 11, 12, 13, 14, 15, 16, 17, 18, 19, 20, 21, 22, 23, 24, 25, 26], true, [], [], false⟩, ⟨[0, 1, 2, 3, 4, 5, 6, 7, 8, 9, 10, 11, 12, 13, 14, 15, 16, 17, 18, 19, 20, 21, 22, 23, 24, 25, 26, 27], true, [], [], false⟩, ⟨[0, 1, 2, 3, 4, 5, 6, 7, 8, 9, 10, 11, 12, 13, 14, 15, 16, 17, 18, 19, 20, 21, 22, 23, 24, 25, 26, 27, 28], true, [], [], false⟩] (by decide) ?_
  simp (maxSteps := 2000000) -implicitDefEqProofs only [zz, zE, evop, ev, ofVal, tget, tput, ok, V.isUndef, intBin, calleeOf, withArgs, hget, hput, V.cells, D.cells, V.isAgg, V.one, V.clo, clos, V.toD, loadD, structAt, sliceOf, partsD, partsV, isPtr, Blk.width, elems, lenOf, splice, ↓reduceIte, reduceCtorEq, Nat.reduceLT, Nat.reduceEqDiff, Nat.reduceAdd, Nat.reduceMul, Nat.reduceLeDiff, w3]
  have hcf := o_Clone_Fr (t.frames.map dFr) (by simp; omega) (okEl_Fr _)
  rw [List.length_map] at hcf
  refine dcall_own (by first | rfl | (simp only [xports, xport, hget]; rfl)) (hcf) rfl ?_
  try simp (maxSteps := 2000000) -implicitDefEqProofs only [zz, zE, evop, ev, tget, tput, ok, V.isUndef, Ch.on, calleeOf, withArgs, hget, hput, V.cells, V.one, structAt, isPtr, Blk.width, splice, ↓reduceIte, reduceCtorEq, Nat.reduceLT, Nat.reduceEqDiff, Nat.reduceAdd, Nat.reduceLeDiff, V.ren]
  refine ⟨⟨by omega, okEl_Fr [⟨t.pc + 1 + x.a, t.pc + 1 + x.a + x.b, t.path.length, t.regs⟩]⟩, ?_⟩
  have hci := o_Clone_int (t.path.map dI) (by simp; omega) (okEl_I _)
  rw [List.length_map] at hci
  refine acall_own (by first | rfl | (simp only [xports, xport, hget]; rfl)) (hci) ?_
  try simp (maxSteps := 2000000) -implicitDefEqProofs only [zz, zE, evop, ev, ofVal, tget, tput, ok, V.isUndef, intBin, Ch.on, tids, tidss, hget, hput, freeze, V.cells, D.cells, V.one, V.toD, structAt, sliceOf, partsD, isPtr, Blk.width, elems, splice, resOf, resVs, ↓reduceIte, reduceCtorEq, Nat.reduceLT, Nat.reduceEqDiff, Nat.reduceAdd, Nat.reduceMul, Nat.reduceLeDiff, nilTest, shiftH, Blk.ren, V.ren]
  refine ⟨⟨by omega, okEl_I [1]⟩, ?_⟩
  rw [w1]
  have ht1 : List.take t.frames.length (t.frames.map dFr) = t.frames.map dFr := by rw [List.take_of_length_le]; simp
  have ht2 : List.take t.path.length (t.path.map dI) = t.path.map dI := by rw [List.take_of_length_le]; simp
  refine Weak.close [35, 38] 1 (by simp) ?_ (by simp [tget, sealF, V.lower, lowerL]) (by simp [Blk.lower, lowerL, V.lower])
  simp [sealH, sealB, sealF, freeze, hput, hget, Blk.ice, ht1, ht2, eiT, dFr, dI, List.take_of_length_le]

theorem r_x_again (t : Ty) (h : List (Bool × Int)) (r : List (Int × Int)) (h1 : t.log.1.length ≤ 1000000) (h2 : t.log.2.length ≤ 1000000) (hf : t.frames.length ≤ 1000000) (hp : t.path.length ≤ 1000000)
    (hfr : ∀ f, t.frames.getLast? = some f → 0 ≤ f.long ∧ f.long ≤ t.path.length) :
    RSpec Tryz.prog 117 [.ptr 0 0 0] [bX t h r] (.tuple []) [bX (agT t) h r] := by
  rcases Nat.eq_zero_or_pos t.frames.length with h0 | h0
  · have e : ((t.frames.length : Int) == 0) = true := by simp [h0]
    have hnil : t.frames = [] := List.length_eq_zero_iff.1 h0
    have hst : agT t = endT t 2 0 := by unfold agT; rw [hnil]; rfl
    rw [hst]
    have hr := r_x_end t h r 2 0
    unfold bX at hr
    refine RSpec.of_awp envOf_ok hmix Tryz.func117 rfl (fun args w => Tryz.call117 args w) (by simp [Tryz.f117]) ?_
    simp only [Tryz.f117]
    simp (maxSteps := 2000000) -implicitDefEqProofs only [zz, evop, ev, tget, tput, ok, V.isUndef, Ch.on, hget, isPtr, Blk.width, ↓reduceIte, Nat.reduceLT, initV]
    unfold bX
    simp (maxSteps := 2000000) -implicitDefEqProofs only [zz, zE, evop, ev, ofVal, tget, tput, ok, V.isUndef, intBin, Ch.on, calleeOf, withArgs, told, hget, structAt, sliceOf, Blk.width, lenOf, ↓reduceIte, reduceCtorEq, Nat.reduceLT, Nat.reduceAdd, nilTest, e]
    refine acall_ref [0] (hr) (by first | rfl | simp [renL, V.ren, frρ, renL_ds]) (by simp) rfl (by simp) (by simp) (by intro j hj; match j, hj with | 0, _ => exact ⟨by simp [hget], rfl⟩) ?_
    try simp (maxSteps := 2000000) -implicitDefEqProofs only [zz, tput, hput, resOf, resVs, ↓reduceIte, Nat.reduceLT, Blk.ren, V.ren, renL, frameH, putL]
    exact Weak.trimsM 1 (by simp) rfl (by simp [tget, V.lower, lowerL]) (by simp [Blk.lower, lowerL, V.lower])
  · have e : ((t.frames.length : Int) == 0) = false := by rw [beq_eq_false_iff_ne]; omega
    obtain ⟨f, hx⟩ : ∃ f, t.frames[t.frames.length - 1]? = some f := ⟨_, List.getElem?_eq_getElem (by omega)⟩
    have hgl : t.frames.getLast? = some f := by rw [List.getLast?_eq_getElem?]; exact hx
    obtain ⟨g1, g2⟩ := hfr f hgl
    have hst : agT t = { t with log := (logBack t.log).1, frames := t.frames.dropLast, regs := f.regs, pc := f.mid, path := t.path.take f.long.toNat ++ [2] } := by unfold agT; rw [hgl]
    rw [hst]
    have hwn : IntKind.i64.wrap ((t.frames.length : Int) - 1) = ((t.frames.length - 1 : Nat) : Int) := by rw [wrap_in (by omega)]; omega
    have hb := c_W_Back t.log h1 h2
    unfold dLE at hb
    refine RSpec.of_snd envOf_ok hmix Tryz.func117 rfl (fun args w => Tryz.call117 args w) (by simp [Tryz.f117]) ?_
    simp only [Tryz.f117]
    refine Snd.upto envOf_ok hmix 4 _ ?_
    simp only [hdN, tlN]
    simp (maxSteps := 2000000) -implicitDefEqProofs only [zz, evop, ev, tget, tput, ok, V.isUndef, Ch.on, hget, isPtr, Blk.width, ↓reduceIte, Nat.reduceLT, initV]
    unfold bX
    simp (maxSteps := 2000000) -implicitDefEqProofs only [zz, zE, evop, ev, ofVal, tget, tput, ok, V.isUndef, intBin, Ch.on, calleeOf, withArgs, told, hget, hput, V.cells, D.cells, V.one, loadD, structAt, sliceOf, isPtr, Blk.width, lenOf, splice, ↓reduceIte, reduceCtorEq, Nat.reduceLT, Nat.reduceEqDiff, Nat.reduceAdd, Nat.reduceLeDiff, nilTest, dFr, e, hwn, List.getElem?_map, hx, Option.map_some, Int.natCast_nonneg]
    refine acall_ice (by first | rfl | (simp only [xports, xport, hget]; rfl)) (hb) ?_
    try simp (maxSteps := 2000000) -implicitDefEqProofs only [zz, zE, evop, ev, tget, tput, ok, V.isUndef, Ch.on, tids, tidss, hget, hput, freeze, V.cells, V.one, structAt, isPtr, Blk.width, splice, ↓reduceIte, reduceCtorEq, Nat.reduceLT, Nat.reduceEqDiff, Nat.reduceAdd, Nat.reduceLeDiff, dLg, cutK_normal]
    refine Snd.weak (T' := [(3, .d (.imm (dFr f) 0)), (2, .d (.int .i64 t.frames.length)), (0, .ptr 0 0 0)]) (H' := [bX { t with log := (logBack t.log).1 } h r]) ?_ ?_
    · refine Weak.close [1] 1 (by simp) ?_ (by simp [tget, sealF, xport, xports, tids, tidss, hget, V.lower, dFr, dI]) (by simp [bX, Blk.lower, lowerL, V.lower])
      simp [sealH, sealB, sealF, freeze, hput, hget, Blk.ice, bX]
    refine Snd.of_awp envOf_ok hmix ?_
    have hdl : t.frames.dropLast = t.frames.take (t.frames.length - 1) := by rw [List.dropLast_eq_take]
    have er : List.take (((t.frames.length - 1 : Nat) : Int) - 0).toNat (t.frames.map dFr) = t.frames.dropLast.map dFr := by
      rw [hdl, List.map_take]; simp
    have ep : List.take (f.long - 0).toNat (t.path.map dI) = (t.path.take f.long.toNat).map dI := by
      rw [List.map_take]; simp
    unfold bX
    refine wdraw_plan [⟨[], false, [37, 38, 39, 40, 41, 42, 43, 44, 45, 46, 47, 48, 49, 50], [], false⟩, ⟨[], false, [36, 37, 38, 39, 40, 41, 42, 43, 44, 45, 46, 47, 48, 49, 50, 51, 52, 53, 54, 55, 56, 57, 58, 59], [0], true⟩, ⟨[], false, [36, 37, 38, 39, 40, 41, 42, 43, 44, 45, 46, 47, 48, 49, 50, 51, 52, 53, 54, 55, 56, 57, 58, 59], [0, 1], true⟩, ⟨[], false, [36, 37, 38, 44, 45, 47, 48, 49, 50], [0, 1, 2], false⟩, ⟨[3], false, [36, 37, 38, 44, 45, 47, 48, 49, 50], [0, 1, 2], false⟩, ⟨[3, 4], false, [36, 37, 38, 44, 45, 47, 48, 49, 50], [0, 1, 2], false⟩, ⟨[3, 4, 5], false, [36, 37, 38, 44, 45, 47, 48, 49, 50], [0, 1, 2], false⟩, ⟨[3, 4, 5, 6], false, [36, 37, 38, 44, 45, 47, 48, 49, 50], [0, 1, 2], false⟩, ⟨[], false, [36, 37, 38, 39, 40, 41, 42, 43, 47, 48, 49, 50], [0, 1, 2, 3, 4, 5, 6, 7], false⟩, ⟨[8], false, [36, 37, 38, 39, 40, 41, 42, 43, 47, 48, 49, 50], [0, 1, 2, 3, 4, 5, 6, 7], false⟩, ⟨[3, 4, 5, 6, 7, 8, 9], false, [36, 37, 38, 47, 48, 49, 50], [0, 1, 2], false⟩, ⟨[], false, [36, 37, 38, 39, 40, 41, 42, 43, 44, 45, 46, 47, 48, 49, 50, 51, 52, 53, 54, 55, 56, 57, 58, 59], [0, 1, 2, 3, 4, 5, 6, 7, 8, 9, 10], true⟩, ⟨[11], false, [36, 37, 38, 39, 40, 41, 42, 43, 44, 45, 46, 48, 49, 50, 51, 52, 53, 54, 55, 56, 57, 58, 59], [0, 1, 2, 3, 4, 5, 6, 7, 8, 9, 10], true⟩, ⟨[], false, [36, 37, 38, 39, 40, 41, 42, 43, 44, 45, 46, 47, 48, 49, 50, 51, 52, 53, 54, 55, 56, 57, 58, 59], [0, 1, 2, 3, 4, 5, 6, 7, 8, 9, 10, 11, 12], true⟩, ⟨[13], false, [36, 37, 38, 39, 40, 41, 42, 43, 44, 45, 46, 47, 48, 50, 51, 52, 53, 54, 55, 56, 57, 58, 59], [0, 1, 2, 3, 4, 5, 6, 7, 8, 9, 10, 11, 12], true⟩, ⟨[0, 3, 4, 5, 6, 7, 8, 9, 10], false, [37, 38, 47, 48, 49, 50], [1, 2, 11, 12, 13, 14], false⟩, ⟨[0, 3, 4, 5, 6, 7, 8, 9, 10, 15], false, [37, 38, 47, 48, 49, 50], [1, 2, 11, 12, 13, 14], false⟩, ⟨[0, 3, 4, 5, 6, 7, 8, 9, 10, 15, 16], false, [37, 38, 47, 48, 49, 50], [1, 2, 11, 12, 13, 14], false⟩, ⟨[0, 3, 4, 5, 6, 7, 8, 9, 10, 15, 16, 17], true, [37, 38, 47, 48, 49, 50], [], false⟩, ⟨[0, 1, 3, 4, 5, 6, 7, 8, 9, 10, 11, 12, 15, 16, 17, 18], false, [38, 49, 50], [2, 13, 14], false⟩, ⟨[0, 1, 3, 4, 5, 6, 7, 8, 9, 10, 11, 12, 15, 16, 17, 18, 19], false, [38, 49, 50], [2, 13, 14], false⟩, ⟨[0, 1, 3, 4, 5, 6, 7, 8, 9, 10, 11, 12, 15, 16, 17, 18, 19, 20], false, [38, 49, 50], [2, 13, 14], false⟩, ⟨[0, 1, 3, 4, 5, 6, 7, 8, 9, 10, 11, 12, 15, 16, 17, 18, 19, 20, 21], true, [38, 49, 50], [], false⟩, ⟨[0, 1, 2, 3, 4, 5, 6, 7, 8, 9, 10, 11, 12, 13, 14, 15, 16, 17, 18, 19, 20, 21, 22], true, [], [], false⟩, ⟨[0, 1, 2, 3, 4, 5, 6, 7, 8, 9, 10, 11, 12, 13, 14, 15, 16, 17, 18, 19, 20, 21, 22, 23], true, [], [], false⟩, ⟨[0, 1, 2, 3, 4, 5, 6, 7, 8, 9, 10, 11, 12, 13, 14, 15, 16, 17, 18, 19, 20, 21, 22, 23, 24], true, [], [], false⟩, ⟨[0, 1, 2, 3, 4, 5, 6, 7, 8, 9, 10, 11, 12, 13, 14, 15, 16, 17, 18, 19, 20, 21, 22, 23, 24, 25], true, [], [], false⟩] (by decide) ?_
    simp (maxSteps := 2000000) -implicitDefEqProofs only [zz, zE, evop, ev, ofVal, tget, tput, ok, V.isUndef, intBin, Ch.on, hget, hput, V.cells, D.cells, V.isAgg, V.one, V.clo, clos, loadD, structAt, sliceOf, bound, isPtr, Blk.width, lenOf, splice, D.over, ↓reduceIte, reduceCtorEq, Nat.reduceLT, Nat.reduceEqDiff, Nat.reduceAdd, Nat.reduceSub, Nat.reduceLeDiff, dFr, hwn, Int.natCast_nonneg, er]
    refine ⟨⟨Int.le_refl _, by omega, okCells_Fr _⟩, ?_⟩
    refine wdraw_plan [⟨[], false, [60, 61, 62, 63, 64, 65, 66, 67, 68, 69, 70, 71, 72, 73, 74], [], true⟩, ⟨[], false, [60, 66, 67, 70], [0], false⟩, ⟨[1], false, [60, 66, 67, 70], [0], false⟩, ⟨[1, 2], false, [60, 66, 67, 70], [0], false⟩, ⟨[1, 2, 3], false, [60, 66, 67, 70], [0], false⟩, ⟨[1, 2, 3, 4], false, [60, 66, 67, 70], [0], false⟩, ⟨[], false, [60, 61, 62, 63, 64, 65, 70], [0, 1, 2, 3, 4, 5], false⟩, ⟨[6], false, [60, 61, 62, 63, 64, 65, 70], [0, 1, 2, 3, 4, 5], false⟩, ⟨[1, 2, 3, 4, 5, 6, 7], false, [60, 70], [0], false⟩, ⟨[1, 2, 3, 4, 5, 6, 7, 8], false, [60, 70], [0], false⟩, ⟨[], false, [60, 61, 62, 63, 64, 65, 66, 67, 68, 69], [0, 1, 2, 3, 4, 5, 6, 7, 8, 9], false⟩, ⟨[1, 2, 3, 4, 5, 6, 7, 8, 9, 10], true, [60], [], false⟩, ⟨[0, 1, 2, 3, 4, 5, 6, 7, 8, 9, 10, 11], true, [], [], false⟩, ⟨[0, 1, 2, 3, 4, 5, 6, 7, 8, 9, 10, 11, 12], true, [], [], false⟩, ⟨[0, 1, 2, 3, 4, 5, 6, 7, 8, 9, 10, 11, 12, 13], true, [], [], false⟩, ⟨[0, 1, 2, 3, 4, 5, 6, 7, 8, 9, 10, 11, 12, 13, 14], true, [], [], false⟩] (by decide) ?_
    simp (maxSteps := 2000000) -implicitDefEqProofs only [zz, zE, evop, ev, ofVal, tget, tput, ok, V.isUndef, calleeOf, withArgs, hget, hput, V.cells, D.cells, V.one, V.toD, loadD, structAt, sliceOf, partsD, bound, isPtr, Blk.width, elems, lenOf, ↓reduceIte, reduceCtorEq, Nat.reduceLT, Nat.reduceEqDiff, Nat.reduceAdd, Nat.reduceMul, Nat.reduceLeDiff, ep]
    refine ⟨⟨Int.le_refl _, g1, g2, by intro e he; obtain ⟨w, _, rfl⟩ := List.mem_map.1 he; rfl⟩, ?_⟩
    have hci := o_Clone_int ((t.path.take f.long.toNat).map dI) (by simp; omega) (okEl_I _)
    rw [List.length_map] at hci
    refine dcall_own (by first | rfl | (simp only [xports, xport, hget]; rfl)) (hci) rfl ?_
    try simp (maxSteps := 2000000) -implicitDefEqProofs only [zz, zE, evop, ev, tget, tput, ok, Ch.on, hget, hput, V.cells, V.one, structAt, isPtr, Blk.width, splice, resOf, resVs, ↓reduceIte, reduceCtorEq, Nat.reduceLT, Nat.reduceEqDiff, Nat.reduceAdd, Nat.reduceLeDiff, V.ren]
    refine ⟨⟨by rw [List.length_take]; omega, okEl_I [2]⟩, ?_⟩
    have ht : List.take (List.take f.long.toNat t.path).length (List.map dI (List.take f.long.toNat t.path)) = List.map dI (List.take f.long.toNat t.path) := by rw [List.take_of_length_le]; simp
    rw [ht]
    refine Weak.close [33] 1 (by simp) ?_ (by simp [tget, sealF, V.lower, lowerL]) (by simp [Blk.lower, lowerL, V.lower])
    simp only [sealH, freeze, hput, hget, Blk.ice, List.map_cons, List.map_nil, sealB, sealF, List.take_succ_cons, List.take_zero, List.mem_singleton, if_true, List.drop_zero]
    rw [List.take_of_length_le (by simp)]
    simp [dI]
end Go.Proofs.YtjhfpabldidlgaaGreat.AM

/- How a try has ended; equal ones are the same; tries, codes and ends as the document's. -/
set_option linter.all false
set_option maxRecDepth 100000
set_option maxHeartbeats 8000000
namespace Go.Proofs.YtjhfpabldidlgaaGreat.AM
open Go Go.RowKit

/-- An end. -/
structure Oy where
  kind : Int
  why : Int
  regs : List Int
  path : List Int
  seen : List Int
  writes : List (Int × Int)
def oyC (o : Oy) : List D := [.int .i64 o.kind, .int .i64 o.why, .vec (o.regs.map dI), .vec (o.path.map dI), .vec (o.seen.map dI), .vec (o.writes.map dW)]
def dO (o : Oy) : D := .agg (oyC o)
def outT (t : Ty) : Oy := if t.kind = 1 then ⟨t.kind, t.why, t.regs, t.path, srtC t.reads, lastW t.log.1⟩ else ⟨t.kind, t.why, [], [], srtC t.reads, []⟩

theorem c_attempt_Out (t : Ty) (hl : t.reads.length ≤ 1000000) (hr : readsR t.reads = true) (hg : logR t.log = true) : CSpec Tryz.prog 24 [dT t] (dO (outT t)) := by
  refine CSpec.of_awp envOf_ok hmix Tryz.func24 rfl (fun args w => Tryz.call24 args w) (by simp [Tryz.f24]) ?_
  simp only [Tryz.f24]
  simp (maxSteps := 2000000) -implicitDefEqProofs only [zz, zE, evop, ev, tget, V.isUndef, initT, V.cells, ↓reduceIte]
  unfold dT tyC
  simp (maxSteps := 2000000) -implicitDefEqProofs only [zz, zE, evop, tput, Ch.on, hput, ↓reduceIte, Nat.reduceLT]
  refine wdraw_plan [⟨[], false, [3, 6, 7, 8, 9, 10], [], false⟩, ⟨[0], false, [3, 6, 7, 8, 9, 10], [], false⟩, ⟨[], false, [3, 4, 5, 8, 9, 10], [0, 1], false⟩, ⟨[2], false, [3, 4, 5, 8, 9, 10], [0, 1], false⟩, ⟨[], false, [3, 4, 5, 6, 7], [0, 1, 2, 3], false⟩, ⟨[4], false, [3, 4, 5, 6, 7], [0, 1, 2, 3], false⟩, ⟨[4, 5], false, [3, 4, 5, 6, 7], [0, 1, 2, 3], false⟩, ⟨[0, 1, 2, 3, 4, 5, 6], false, [3], [], false⟩, ⟨[], false, [4, 5, 6, 7, 8, 9, 10, 11], [0, 1, 2, 3, 4, 5, 6, 7], false⟩, ⟨[0, 1, 2, 3, 4, 5, 6, 7, 8], true, [], [], false⟩] (by decide) ?_
  simp (maxSteps := 2000000) -implicitDefEqProofs only [zz, zE, evop, ev, ofVal, tget, tput, ok, V.isUndef, calleeOf, withArgs, hget, hput, V.cells, D.cells, loadD, structAt, partsV, Blk.width, splice, D.over, ↓reduceIte, reduceCtorEq, Nat.reduceLT, Nat.reduceEqDiff, Nat.reduceAdd, Nat.reduceLeDiff]
  have h1 := c_reads_Cells t.reads hl hr
  refine dcall_still (by first | rfl | (simp only [xports, xport, hget]; rfl)) (h1) rfl ?_
  try simp (maxSteps := 2000000) -implicitDefEqProofs only [zz, zE, evop, ev, ofVal, tget, tput, ok, V.isUndef, intBin, Ch.on, told, xport, xports, hget, hput, V.cells, V.one, structAt, Blk.width, splice, resOf, resV, resVs, ↓reduceIte, reduceCtorEq, Nat.reduceLT, Nat.reduceEqDiff, Nat.reduceAdd, Nat.reduceLeDiff, nilTest]
  have h2 := c_Last t.log
  rw [if_pos hg] at h2
  by_cases hk : t.kind = 1
  · have e : (t.kind == 1) = true := by simpa using hk
    have ho : outT t = ⟨t.kind, t.why, t.regs, t.path, srtC t.reads, lastW t.log.1⟩ := by unfold outT; rw [if_pos hk]
    rw [ho]
    unfold dO oyC
    simp (maxSteps := 2000000) -implicitDefEqProofs only [↓reduceIte, e]
    refine wdraw_weak (Weak.sealed (T' := [(1, .d (.imm (dT t) 0)), (3, .ptr 10 0 0), (2, .ptr 1 0 0)]) [0] (by simp [tget, sealF, xport, xports, tids, tidss, hget, dT, tyC])) [⟨[], false, [17, 18, 19, 20, 21], [], false⟩, ⟨[0], false, [17, 18, 19, 20, 21], [], false⟩, ⟨[], false, [15, 16, 17, 18, 19, 20, 21, 22, 23, 24], [0, 1], true⟩, ⟨[2], false, [15, 16, 18, 19, 20, 21, 22, 23, 24], [0, 1], true⟩, ⟨[], false, [15, 16, 17, 18, 22], [0, 1, 2, 3], false⟩, ⟨[4], false, [15, 16, 17, 18, 22], [0, 1, 2, 3], false⟩, ⟨[4, 5], false, [15, 16, 17, 18, 22], [0, 1, 2, 3], false⟩, ⟨[0, 1], false, [17, 18, 19, 20, 21], [2, 3, 4, 5, 6], false⟩, ⟨[0, 1, 4, 5, 6, 7], true, [17, 18], [], false⟩, ⟨[0, 1, 2, 3, 4, 5, 6, 7, 8], true, [], [], false⟩, ⟨[0, 1, 2, 3, 4, 5, 6, 7, 8, 9], true, [], [], false⟩, ⟨[0, 1, 2, 3, 4, 5, 6, 7, 8, 9, 10], true, [], [], false⟩, ⟨[0, 1, 2, 3, 4, 5, 6, 7, 8, 9, 10, 11], true, [], [], false⟩] (by decide) ?_
    simp only [sealH, AM.freeze, hput, hget, Blk.ice, List.map_cons, List.map_nil, sealB, sealF, List.mem_singleton, dT, tyC]
    simp (maxSteps := 2000000) -implicitDefEqProofs only [zz, zE, evop, ev, ofVal, tget, tput, ok, V.isUndef, Ch.on, calleeOf, withArgs, hget, hput, V.cells, D.cells, V.one, loadD, structAt, Blk.width, splice, D.over, ↓reduceIte, reduceCtorEq, Nat.reduceLT, Nat.reduceEqDiff, Nat.reduceAdd, Nat.reduceLeDiff]
    refine dcall_still (by first | rfl | (simp only [xports, xport, hget]; rfl)) (h2) rfl ?_
    try simp (maxSteps := 2000000) -implicitDefEqProofs only [zz, zE, evop, ev, tget, tput, ok, Ch.on, xport, xports, hget, hput, V.cells, V.one, splice, resOf, resV, resVs, ↓reduceIte, Nat.reduceLT, Nat.reduceEqDiff, Nat.reduceAdd, Nat.reduceLeDiff]
  · have e : (t.kind == 1) = false := by simpa using hk
    have ho : outT t = ⟨t.kind, t.why, [], [], srtC t.reads, []⟩ := by unfold outT; rw [if_neg hk]
    rw [ho]
    unfold dO oyC
    simp (maxSteps := 2000000) -implicitDefEqProofs only [zz, ↓reduceIte, e]

end Go.Proofs.YtjhfpabldidlgaaGreat.AM

/- A stepper loads. -/
set_option linter.all false
set_option maxRecDepth 100000
set_option maxHeartbeats 8000000
namespace Go.Proofs.YtjhfpabldidlgaaGreat.AM
open Go Go.RowKit

theorem r_x_load (t : Ty) (h : List (Bool × Int)) (r : List (Int × Int)) (x : St) (hl : h.length ≤ 1000000) (htb : tableR r = true) (hreg : t.regs.length = 8) (ha : 0 ≤ x.a ∧ x.a < 8) (hpc : 0 ≤ t.pc ∧ t.pc ≤ 1000000)
    (hrd : readsR t.reads = true) (hrl : t.reads.length < 24) :
    RSpec Tryz.prog 113 [.ptr 0 0 0, .d (dS x)] [bX t h r] (.tuple []) [bX (loadT t x h r) h r] := by
  refine RSpec.of_awp envOf_ok hmix Tryz.func113 rfl (fun args w => Tryz.call113 args w) (by simp [Tryz.f113]) ?_
  simp only [Tryz.f113]
  simp (maxSteps := 2000000) -implicitDefEqProofs only [zz, zE, evop, ev, tget, tput, V.isUndef, Ch.on, hput, V.cells, ↓reduceIte, reduceCtorEq, Nat.reduceLT, initV, dS]
  unfold bX
  refine wdraw_plan [⟨[], false, [16, 17], [], false⟩, ⟨[0], false, [16, 17], [], false⟩, ⟨[0, 1], false, [16, 17], [], false⟩, ⟨[0, 1, 2], false, [16, 17], [], false⟩, ⟨[], false, [12, 13, 14, 15], [0, 1, 2, 3], false⟩, ⟨[4], false, [12, 13, 14, 15], [0, 1, 2, 3], false⟩, ⟨[0, 1, 2, 3, 4, 5], true, [], [], false⟩, ⟨[0, 1, 2, 3, 4, 5, 6], true, [], [], false⟩, ⟨[0, 1, 2, 3, 4, 5, 6, 7], false, [20], [], false⟩, ⟨[0, 1, 2, 3, 4, 5, 6, 7], false, [4, 19], [8], false⟩, ⟨[0, 1, 2, 3, 4, 5, 6, 7, 8], false, [20], [9], false⟩, ⟨[0, 1, 2, 3, 4, 5, 6, 7, 8, 9, 10], true, [], [], false⟩] (by decide) ?_
  simp (maxSteps := 2000000) -implicitDefEqProofs only [zz, zE, evop, ev, ofVal, tget, tput, ok, V.isUndef, calleeOf, withArgs, hget, hput, D.cells, loadD, structAt, isPtr, Blk.width, ↓reduceIte, reduceCtorEq, Nat.reduceLT, Nat.reduceEqDiff, Nat.reduceAdd, Nat.reduceLeDiff]
  refine acall_flat (by first | rfl | (simp only [xports, xport, hget]; rfl)) (c_heap_Get h x.b hl) rfl ?_
  try simp (maxSteps := 2000000) -implicitDefEqProofs only [zz, zE, evop, ev, ofVal, tget, tput, ok, V.isUndef, intBin, Ch.on, calleeOf, withArgs, told, hget, hput, structAt, Blk.width, ↓reduceIte, reduceCtorEq, Nat.reduceLT, Nat.reduceEqDiff, Nat.reduceAdd, Nat.reduceSub, Nat.reduceLeDiff, nilTest]
  by_cases h0 : (heapGet h x.b).2 = 0
  case neg =>
    have e : ((heapGet h x.b).2 != 0) = true := by simpa using h0
    have hst : loadT t x h r = endT t 4 x.b := by unfold loadT; rw [if_pos h0]
    rw [hst]
    have hr := r_x_end t h r 4 x.b
    unfold bX at hr
    simp (maxSteps := 2000000) -implicitDefEqProofs only [↓reduceIte, e]
    refine acall_ref [0] (hr) (by first | rfl | simp [renL, V.ren, frρ, renL_ds]) (by simp) rfl (by simp) (by simp) (by intro j hj; match j, hj with | 0, _ => exact ⟨by simp [hget], rfl⟩) ?_
    try simp (maxSteps := 2000000) -implicitDefEqProofs only [zz, tput, hput, resOf, resVs, ↓reduceIte, Nat.reduceLT, Nat.reduceAdd, Blk.ren, V.ren, renL, frameH, putL]
    exact Weak.trimsM 1 (by simp) rfl (by simp [tget, V.lower, lowerL]) (by simp [Blk.lower, lowerL, V.lower])
  have e : ((heapGet h x.b).2 != 0) = false := by simpa using h0
  have hn := not_not_intro h0
  simp (maxSteps := 2000000) -implicitDefEqProofs only [zz, ↓reduceIte, e]
  refine wdraw_plan [⟨[], false, [33, 34], [], false⟩, ⟨[0], false, [33, 34], [], false⟩, ⟨[0, 1], false, [33, 34], [], false⟩, ⟨[0, 1, 2], false, [33, 34], [], false⟩, ⟨[0, 1, 2, 3], false, [33, 34], [], false⟩, ⟨[], false, [28, 29, 30, 31, 32], [0, 1, 2, 3, 4], false⟩, ⟨[5], false, [28, 29, 30, 31, 32], [0, 1, 2, 3, 4], false⟩, ⟨[0, 1, 2, 3, 4, 5, 6], true, [], [], false⟩, ⟨[0, 1, 2, 3, 4, 5, 6, 7], true, [], [], false⟩, ⟨[0, 1, 2, 3, 4, 5, 6, 7, 8], false, [37], [], false⟩, ⟨[0, 1, 2, 3, 4, 5, 6, 7, 8], false, [6, 36], [9], false⟩, ⟨[0, 1, 2, 3, 4, 5, 6, 7, 8, 9], false, [37], [10], false⟩, ⟨[0, 1, 2, 3, 4, 5, 6, 7, 8, 9, 10, 11], true, [], [], false⟩] (by decide) ?_
  simp (maxSteps := 2000000) -implicitDefEqProofs only [zz, zE, evop, ev, ofVal, tget, tput, ok, V.isUndef, calleeOf, withArgs, hget, hput, D.cells, loadD, structAt, isPtr, Blk.width, ↓reduceIte, reduceCtorEq, Nat.reduceLT, Nat.reduceEqDiff, Nat.reduceAdd, Nat.reduceLeDiff]
  have hg := c_Get t.log x.b
  refine acall_flat (by first | rfl | (simp only [xports, xport, hget]; rfl)) (hg) rfl ?_
  try simp (maxSteps := 2000000) -implicitDefEqProofs only [zz, zE, evop, ev, tget, tput, ok, V.isUndef, Ch.on, calleeOf, withArgs, told, hget, hput, structAt, Blk.width, ↓reduceIte, reduceCtorEq, Nat.reduceLT, Nat.reduceEqDiff, Nat.reduceAdd, Nat.reduceSub, Nat.reduceLeDiff]
  cases hg2 : (getL t.log x.b).2 with
  | true =>
    have g2 : (logR t.log && (getW t.log.1 x.b).2) = true := hg2
    have hst : loadT t x h r = putT t x.a (getL t.log x.b).1 := by unfold loadT; rw [if_neg hn, if_pos hg2]
    rw [hst]
    have hr := r_x_put t h r x.a (getL t.log x.b).1 hreg ha hpc
    unfold bX getL at hr
    simp (maxSteps := 2000000) -implicitDefEqProofs only [↓reduceIte, g2]
    refine acall_ref [0] (hr) (by first | rfl | simp [renL, V.ren, frρ, renL_ds]) (by simp) rfl (by simp) (by simp) (by intro j hj; match j, hj with | 0, _ => exact ⟨by simp [hget], rfl⟩) ?_
    try simp (maxSteps := 2000000) -implicitDefEqProofs only [zz, tput, hput, resOf, resVs, ↓reduceIte, Nat.reduceLT, Nat.reduceAdd, Blk.ren, V.ren, renL, frameH, putL]
    exact Weak.trimsM 1 (by simp) rfl (by simp [tget, V.lower, lowerL]) (by simp [Blk.lower, lowerL, V.lower])
  | false =>
    have g2 : (logR t.log && (getW t.log.1 x.b).2) = false := hg2
    have hng : ¬ (getL t.log x.b).2 = true := by rw [hg2]; decide
    simp (maxSteps := 2000000) -implicitDefEqProofs only [zz, ↓reduceIte, g2]
    refine wdraw_plan [⟨[], false, [8, 50, 51], [], false⟩, ⟨[0], false, [8, 50, 51], [], false⟩, ⟨[0, 1], false, [8, 50, 51], [], false⟩, ⟨[0, 1, 2], false, [8, 50, 51], [], false⟩, ⟨[0, 1, 2, 3], false, [8, 50, 51], [], false⟩, ⟨[], false, [8, 45, 46, 47, 48, 49], [0, 1, 2, 3, 4], false⟩, ⟨[5], false, [8, 45, 46, 47, 48, 49], [0, 1, 2, 3, 4], false⟩, ⟨[0, 1, 2, 3, 4, 5, 6], false, [8], [], false⟩, ⟨[0, 1, 2, 3, 4, 5, 6, 7], false, [8], [], false⟩, ⟨[0, 1, 2, 3, 4, 5, 6, 7, 8], false, [8, 54], [], false⟩, ⟨[0, 1, 2, 3, 4, 5, 6, 7, 8], false, [8, 9, 53, 54], [9], true⟩, ⟨[], false, [44, 45, 46, 47, 48, 49, 50, 51, 52, 53, 54], [0, 1, 2, 3, 4, 5, 6, 7, 8, 9, 10], false⟩, ⟨[0, 1, 2, 3, 4, 5, 6, 7, 8, 9, 11], true, [54], [], false⟩, ⟨[0, 1, 2, 3, 4, 5, 6, 7, 8, 9, 10, 11, 12], true, [], [], false⟩] (by decide) ?_
    simp (maxSteps := 2000000) -implicitDefEqProofs only [zz, zE, evop, ev, ofVal, tget, tput, ok, V.isUndef, calleeOf, withArgs, hget, hput, V.cells, D.cells, loadD, structAt, isPtr, Blk.width, splice, D.over, ↓reduceIte, reduceCtorEq, Nat.reduceLT, Nat.reduceEqDiff, Nat.reduceAdd, Nat.reduceLeDiff]
    have hf := c_reads_Find t.reads x.b (by omega)
    cases hfd : t.reads.find? (fun y => y.1 == x.b) with
    | some y =>
      have hfr : findR t.reads x.b = (y, true) := by unfold findR; rw [if_pos hrd, hfd]
      rw [hfr] at hf
      have hst : loadT t x h r = putT t x.a y.2.2 := by unfold loadT; rw [if_neg hn, if_neg hng, hfd]
      rw [hst]
      have hr := r_x_put t h r x.a y.2.2 hreg ha hpc
      unfold bX at hr
      refine dcall_still (by first | rfl | (simp only [xports, xport, hget]; rfl)) (hf) rfl ?_
      try simp (maxSteps := 2000000) -implicitDefEqProofs only [zz, zE, evop, ev, tget, tput, ok, V.isUndef, Ch.on, calleeOf, withArgs, told, hget, hput, V.one, structAt, Blk.width, ↓reduceIte, reduceCtorEq, Nat.reduceLT, Nat.reduceEqDiff, Nat.reduceAdd, dRd]
      refine acall_ref [0] (hr) (by first | rfl | simp [renL, V.ren, frρ, renL_ds]) (by simp) rfl (by simp) (by simp) (by intro j hj; match j, hj with | 0, _ => exact ⟨by simp [hget], rfl⟩) ?_
      try simp (maxSteps := 2000000) -implicitDefEqProofs only [zz, tput, hput, resOf, resVs, ↓reduceIte, Nat.reduceLT, Nat.reduceAdd, Blk.ren, V.ren, renL, frameH, putL]
      exact Weak.trimsM 1 (by simp) rfl (by simp [tget, V.lower, lowerL]) (by simp [Blk.lower, lowerL, V.lower])
    | none =>
      have hfr : findR t.reads x.b = ((0, 0, 0), false) := by unfold findR; rw [if_pos hrd, hfd]
      rw [hfr] at hf
      obtain ⟨z1, z2, z3, z4, z5⟩ := heapGet_0 h0
      obtain ⟨y1, y2, y3, y4, y5, y6, y7⟩ := recR_in htb z4
      have hrx : r[(x.b.tmod r.length).toNat]? = some (recR r x.b) := by
        unfold recR
        rw [List.getElem?_eq_getElem (by omega)]
        rfl
      have hrne : (r.length : Int) ≠ 0 := by omega
      refine dcall_still (by first | rfl | (simp only [xports, xport, hget]; rfl)) (hf) rfl ?_
      try simp (maxSteps := 2000000) -implicitDefEqProofs only [zz, evop, ev, tget, tput, ok, V.isUndef, Ch.on, told, hput, V.one, ↓reduceIte, Nat.reduceLT, Nat.reduceEqDiff, Nat.reduceAdd, dRd]
      refine wdraw_plan [⟨[], false, [10, 66, 67, 68, 69, 70, 71, 72, 73], [], false⟩, ⟨[0], false, [10, 66, 67, 68, 69, 70, 71, 72, 73], [], false⟩, ⟨[0, 1], false, [10, 66, 67, 68, 69, 70, 71, 72, 73], [], false⟩, ⟨[0, 1, 2], false, [10, 66, 67, 68, 69, 70, 71, 72, 73], [], false⟩, ⟨[], false, [10, 62, 63, 64, 65, 68, 69, 70, 71, 72], [0, 1, 2, 3], false⟩, ⟨[4], false, [10, 62, 63, 64, 65, 68, 69, 70, 71, 72], [0, 1, 2, 3], false⟩, ⟨[], false, [10, 62, 63, 64, 65, 66, 67], [0, 1, 2, 3, 4, 5], false⟩, ⟨[6], false, [10, 62, 63, 64, 65, 66, 67], [0, 1, 2, 3, 4, 5], false⟩, ⟨[6, 7], false, [10, 62, 63, 64, 65, 66, 67], [0, 1, 2, 3, 4, 5], false⟩, ⟨[6, 7, 8], false, [10, 62, 63, 64, 65, 66, 67], [0, 1, 2, 3, 4, 5], false⟩, ⟨[6, 7, 8, 9], false, [10, 62, 63, 64, 65, 66, 67], [0, 1, 2, 3, 4, 5], false⟩, ⟨[4, 5, 6, 7, 8, 9, 10], false, [10, 62, 63, 64, 65], [0, 1, 2, 3], false⟩, ⟨[0, 1, 2, 3, 4, 5, 6, 7, 8, 9, 10, 11], false, [10], [], false⟩, ⟨[0, 1, 2, 3, 4, 5, 6, 7, 8, 9, 10, 11, 12], false, [10], [], false⟩, ⟨[], false, [62, 63, 64, 65, 66, 67, 68, 69, 70, 71, 72, 73, 74, 75], [0, 1, 2, 3, 4, 5, 6, 7, 8, 9, 10, 11, 12, 13], false⟩, ⟨[0, 1, 2, 3, 4, 5, 6, 7, 8, 9, 10, 11, 12, 13, 14], true, [], [], false⟩] (by decide) ?_
      simp (maxSteps := 2000000) -implicitDefEqProofs only [zz, zE, evop, ev, tget, tput, ok, V.isUndef, intBin, Ch.on, hget, hput, V.cells, D.cells, V.isAgg, V.one, loadD, structAt, sliceOf, isPtr, Blk.width, lenOf, splice, D.over, ↓reduceIte, reduceCtorEq, Nat.reduceLT, Nat.reduceEqDiff, Nat.reduceAdd, Nat.reduceLeDiff, dW, List.getElem?_map, hrx, Option.map_some]
      refine ⟨hrne, y6, ?_⟩
      by_cases ho : (recR r x.b).2 = 0
      case neg =>
        have eo : ((recR r x.b).2 != 0) = true := by simpa using ho
        have hst : loadT t x h r = endT t 5 0 := by unfold loadT; rw [if_neg hn, if_neg hng, hfd]; simp only; rw [if_pos (.inl ho)]
        rw [hst]
        have hr := r_x_end t h r 5 0
        unfold bX at hr
        refine wdraw_plan [⟨[], true, [], [], false⟩, ⟨[0], true, [], [], false⟩, ⟨[0, 1], true, [], [], false⟩, ⟨[0, 1, 2], true, [], [], false⟩, ⟨[0, 1, 2, 3], false, [82, 83, 84, 85, 86], [], false⟩, ⟨[0, 1, 2, 3, 4], false, [82, 83, 84, 85, 86], [], false⟩, ⟨[0, 1, 2, 3], false, [80, 81], [4, 5], false⟩, ⟨[0, 1, 2, 3, 6], false, [80, 81], [4, 5], false⟩, ⟨[0, 1, 2, 3, 6, 7], false, [80, 81], [4, 5], false⟩, ⟨[0, 1, 2, 3, 6, 7, 8], false, [80, 81], [4, 5], false⟩, ⟨[0, 1, 2, 3, 6, 7, 8, 9], false, [80, 81], [4, 5], false⟩, ⟨[0, 1, 2, 3, 4, 5, 6, 7, 8, 9, 10], false, [], [], false⟩, ⟨[0, 1, 2, 3, 4, 5, 6, 7, 8, 9, 10, 11], true, [], [], false⟩] (by decide) ?_
        simp (maxSteps := 2000000) -implicitDefEqProofs only [zz, zE, evop, ev, ofVal, tget, tput, ok, V.isUndef, intBin, guardOf, Ch.on, calleeOf, withArgs, told, hget, hput, structAt, Blk.width, ↓reduceIte, reduceCtorEq, Nat.reduceLT, Nat.reduceEqDiff, Nat.reduceAdd, Nat.reduceSub, eo]
        refine acall_ref [0] (hr) (by first | rfl | simp [renL, V.ren, frρ, renL_ds]) (by simp) rfl (by simp) (by simp) (by intro j hj; match j, hj with | 0, _ => exact ⟨by simp [hget], rfl⟩) ?_
        try simp (maxSteps := 2000000) -implicitDefEqProofs only [zz, tput, hput, resOf, resVs, ↓reduceIte, Nat.reduceLT, Nat.reduceAdd, Blk.ren, V.ren, renL, frameH, putL]
        exact Weak.trimsM 1 (by simp) rfl (by simp [tget, V.lower, lowerL]) (by simp [Blk.lower, lowerL, V.lower])
      have eo : ((recR r x.b).2 != 0) = false := by simpa using ho
      by_cases hv : (recR r x.b).1 > t.snap
      case pos =>
        have hst : loadT t x h r = endT t 5 0 := by unfold loadT; rw [if_neg hn, if_neg hng, hfd]; simp only; rw [if_pos (.inr hv)]
        rw [hst]
        have hr := r_x_end t h r 5 0
        unfold bX at hr
        refine wdraw_plan [⟨[], true, [], [], false⟩, ⟨[0], true, [], [], false⟩, ⟨[0, 1], true, [], [], false⟩, ⟨[0, 1, 2], true, [], [], false⟩, ⟨[0, 1, 2, 3], false, [82, 83, 84, 85, 86], [], false⟩, ⟨[0, 1, 2, 3, 4], false, [82, 83, 84, 85, 86], [], false⟩, ⟨[0, 1, 2, 3], false, [80, 81], [4, 5], false⟩, ⟨[0, 1, 2, 3, 6], false, [80, 81], [4, 5], false⟩, ⟨[0, 1, 2, 3, 6, 7], false, [80, 81], [4, 5], false⟩, ⟨[0, 1, 2, 3, 6, 7, 8], false, [80, 81], [4, 5], false⟩, ⟨[0, 1, 2, 3, 6, 7, 8, 9], false, [80, 81], [4, 5], false⟩, ⟨[0, 1, 2, 3, 4, 5, 6, 7, 8, 9, 10], false, [], [], false⟩, ⟨[0, 1, 2, 3, 4, 5, 6, 7, 8, 9, 10, 11], true, [], [], false⟩] (by decide) ?_
        simp (maxSteps := 2000000) -implicitDefEqProofs only [zz, zE, evop, ev, ofVal, tget, tput, ok, V.isUndef, intBin, guardOf, Ch.on, calleeOf, withArgs, told, hget, hput, V.cells, D.cells, V.isAgg, loadD, structAt, isPtr, Blk.width, ↓reduceIte, reduceCtorEq, Nat.reduceLT, Nat.reduceEqDiff, Nat.reduceAdd, Nat.reduceSub, Nat.reduceLeDiff, eo, hv]
        refine acall_ref [0] (hr) (by first | rfl | simp [renL, V.ren, frρ, renL_ds]) (by simp) rfl (by simp) (by simp) (by intro j hj; match j, hj with | 0, _ => exact ⟨by simp [hget], rfl⟩) ?_
        try simp (maxSteps := 2000000) -implicitDefEqProofs only [zz, tput, hput, resOf, resVs, ↓reduceIte, Nat.reduceLT, Nat.reduceAdd, Blk.ren, V.ren, renL, frameH, putL]
        exact Weak.trimsM 1 (by simp) rfl (by simp [tget, V.lower, lowerL]) (by simp [Blk.lower, lowerL, V.lower])
      have hst : loadT t x h r = putT { t with reads := t.reads ++ [(x.b, (recR r x.b).1, (heapGet h x.b).1)] } x.a (heapGet h x.b).1 := by
        unfold loadT; rw [if_neg hn, if_neg hng, hfd]; simp only; rw [if_neg (by omega)]
      rw [hst]
      refine wdraw_plan [⟨[], true, [], [], false⟩, ⟨[0], true, [], [], false⟩, ⟨[0, 1], true, [], [], false⟩, ⟨[0, 1, 2], true, [], [], false⟩, ⟨[0, 1, 2, 3], false, [82, 83, 84, 85, 86], [], false⟩, ⟨[0, 1, 2, 3, 4], false, [82, 83, 84, 85, 86], [], false⟩, ⟨[0, 1, 2, 3], false, [80, 81], [4, 5], false⟩, ⟨[0, 1, 2, 3, 6], false, [80, 81], [4, 5], false⟩, ⟨[0, 1, 2, 3, 6, 7], false, [80, 81], [4, 5], false⟩, ⟨[0, 1, 2, 3, 6, 7, 8], false, [80, 81], [4, 5], false⟩, ⟨[0, 1, 2, 3, 6, 7, 8, 9], false, [80, 81], [4, 5], false⟩, ⟨[0, 1, 2, 3, 4, 5, 6, 7, 8, 9, 10], false, [], [], false⟩, ⟨[0, 1, 2, 3, 4, 5, 6, 7, 8, 9, 10, 11], true, [], [], false⟩] (by decide) ?_
      simp (maxSteps := 2000000) -implicitDefEqProofs only [zz, zE, evop, ev, ofVal, tget, tput, ok, V.isUndef, intBin, guardOf, Ch.on, told, hget, hput, V.cells, D.cells, V.isAgg, loadD, structAt, isPtr, Blk.width, ↓reduceIte, reduceCtorEq, Nat.reduceLT, Nat.reduceEqDiff, Nat.reduceAdd, Nat.reduceSub, Nat.reduceLeDiff, eo, hv]
      refine wdraw_plan [⟨[], false, [91, 92, 93, 94, 95, 96, 97, 98, 99, 100, 101, 102, 103, 104, 105, 106, 107, 108, 109], [], true⟩, ⟨[], false, [92, 98, 99, 100, 101, 102, 103], [0], false⟩, ⟨[1], false, [92, 98, 99, 100, 101, 102, 103], [0], false⟩, ⟨[1, 2], false, [92, 98, 99, 100, 101, 102, 103], [0], false⟩, ⟨[1, 2, 3], false, [92, 98, 99, 100, 101, 102, 103], [0], false⟩, ⟨[1, 2, 3, 4], false, [92, 98, 99, 100, 101, 102, 103], [0], false⟩, ⟨[], false, [92, 93, 94, 95, 96, 97, 100, 101, 102], [0, 1, 2, 3, 4, 5], false⟩, ⟨[6], false, [92, 93, 94, 95, 96, 97, 100, 101, 102], [0, 1, 2, 3, 4, 5], false⟩, ⟨[], false, [92, 93, 94, 95, 96, 97, 98, 99, 102], [0, 1, 2, 3, 4, 5, 6, 7], false⟩, ⟨[8], false, [92, 93, 94, 95, 96, 97, 98, 99, 102], [0, 1, 2, 3, 4, 5, 6, 7], false⟩, ⟨[], false, [92, 93, 94, 95, 96, 97, 98, 99, 100, 101], [0, 1, 2, 3, 4, 5, 6, 7, 8, 9], false⟩, ⟨[6, 7, 8, 9, 10], false, [92, 93, 94, 95, 96, 97], [0, 1, 2, 3, 4, 5], false⟩, ⟨[1, 2, 3, 4, 5, 6, 7, 8, 9, 10, 11], true, [92], [], false⟩, ⟨[1, 2, 3, 4, 5, 6, 7, 8, 9, 10, 11, 12], false, [92], [0], false⟩, ⟨[1, 2, 3, 4, 5, 6, 7, 8, 9, 10, 11, 12, 13], false, [92, 106], [0], false⟩, ⟨[1, 2, 3, 4, 5, 6, 7, 8, 9, 10, 11, 12, 13], false, [92, 105, 106, 107, 108, 109], [0, 14], true⟩, ⟨[0, 1, 2, 3, 4, 5, 6, 7, 8, 9, 10, 11, 12, 13, 14], false, [106], [15], false⟩, ⟨[0, 1, 2, 3, 4, 5, 6, 7, 8, 9, 10, 11, 12, 13, 14, 16], false, [106], [15], false⟩, ⟨[0, 1, 2, 3, 4, 5, 6, 7, 8, 9, 10, 11, 12, 13, 14, 16, 17], false, [106], [15], false⟩, ⟨[0, 1, 2, 3, 4, 5, 6, 7, 8, 9, 10, 11, 12, 13, 14, 16, 17, 18], true, [106], [], false⟩] (by decide) ?_
      simp (maxSteps := 2000000) -implicitDefEqProofs only [zz, zE, evop, ev, ofVal, tget, tput, ok, V.isUndef, calleeOf, withArgs, hget, hput, V.cells, D.cells, loadD, structAt, partsV, isPtr, Blk.width, splice, ↓reduceIte, reduceCtorEq, Nat.reduceLT, Nat.reduceEqDiff, Nat.reduceAdd, Nat.reduceLeDiff]
      have hadd := c_reads_Add t.reads (x.b, (recR r x.b).1, (heapGet h x.b).1) hrl hrd (by simp only [rightRd, tickR, Bool.and_eq_true, decide_eq_true_eq]; exact ⟨⟨z4, y2, y3⟩, z3⟩) hfd
      refine acall_ice (by first | rfl | (simp only [xports, xport, hget]; rfl)) (hadd) ?_
      try simp (maxSteps := 2000000) -implicitDefEqProofs only [zz, zE, evop, ev, tget, tput, ok, V.isUndef, Ch.on, calleeOf, withArgs, tids, tidss, hget, hput, freeze, V.cells, D.cells, V.one, structAt, isPtr, Blk.width, splice, D.over, ↓reduceIte, reduceCtorEq, Nat.reduceLT, Nat.reduceEqDiff, Nat.reduceAdd, Nat.reduceSub, Nat.reduceLeDiff]
      have hr := r_x_put { t with reads := t.reads ++ [(x.b, (recR r x.b).1, (heapGet h x.b).1)] } h r x.a (heapGet h x.b).1 hreg ha hpc
      unfold bX at hr
      refine acall_ref [0] (hr) (by first | rfl | simp [renL, V.ren, frρ, renL_ds]) (by simp) rfl (by simp) (by simp) (by intro j hj; match j, hj with | 0, _ => exact ⟨by simp [hget], rfl⟩) ?_
      try simp (maxSteps := 2000000) -implicitDefEqProofs only [zz, tput, hput, resOf, resVs, ↓reduceIte, Nat.reduceLT, Nat.reduceAdd, Blk.ren, V.ren, renL, frameH, putL]
      exact Weak.trimsM 1 (by simp) rfl (by simp [tget, V.lower, lowerL]) (by simp [Blk.lower, lowerL, V.lower])
end Go.Proofs.YtjhfpabldidlgaaGreat.AM

/- A try begins. -/
set_option linter.all false
set_option maxRecDepth 100000
set_option maxHeartbeats 4000000
namespace Go.Proofs.YtjhfpabldidlgaaGreat.AM
open Go Go.RowKit

theorem c_attempt_Begin (c : List St) (who snap : Int) (hl : c.length ≤ 1000000) (ht : ∀ s ∈ c, s.t.length ≤ 1000000) : CSpec Tryz.prog 15 [.vec (c.map dS), .int .i64 who, .int .i64 snap] (.tuple [dT (begT c who snap), .int .i64 (if mayB c who snap = true then 0 else 1)]) := by
  have bad : mayB c who snap = false → begT c who snap = zeroT ∧ (if mayB c who snap = true then (0 : Int) else 1) = 1 := fun h => by simp [begT, h]
  refine CSpec.of_awp envOf_ok hmix Tryz.func15 rfl (fun args w => Tryz.call15 args w) (by simp [Tryz.f15]) ?_
  simp only [Tryz.f15]
  simp (maxSteps := 2000000) -implicitDefEqProofs only [zz, zE, evop, ev, ofVal, tget, tput, ok, V.isUndef, initT, Ch.on, calleeOf, withArgs, hput, ↓reduceIte, reduceCtorEq, Nat.reduceLT, Nat.reduceAdd]
  refine acall_flat (by first | rfl | (simp only [xports, xport, hget]; rfl)) (c_code_Check c hl ht) rfl ?_
  try simp (maxSteps := 2000000) -implicitDefEqProofs only [zz, zE, evop, ev, ofVal, tget, tput, ok, V.isUndef, intBin, guardOf, Ch.on, calleeOf, withArgs, told, xport, xports, hget, hput, V.cells, V.one, partsV, splice, resOf, resV, resVs, ↓reduceIte, reduceCtorEq, Nat.reduceLT, Nat.reduceEqDiff, Nat.reduceAdd, Nat.reduceLeDiff, nilTest]
  by_cases h1 : codeC c = 0
  case neg =>
    have e1 : (codeC c != 0) = true := by simpa using h1
    obtain ⟨b1, b2⟩ := bad (by simp [mayB, h1])
    rw [b1, b2]
    simp (maxSteps := 2000000) -implicitDefEqProofs only [zz, ↓reduceIte, e1]
    rfl
  have e1 : (codeC c != 0) = false := by simpa using h1
  by_cases h2 : who < 1
  · obtain ⟨b1, b2⟩ := bad (by have : ¬ 1 ≤ who := by omega
                               simp [mayB, this])
    rw [b1, b2]
    simp (maxSteps := 2000000) -implicitDefEqProofs only [zz, ↓reduceIte, e1, h2]
    rfl
  by_cases h3 : who > 8
  · obtain ⟨b1, b2⟩ := bad (by have : ¬ who ≤ 8 := by omega
                               simp [mayB, this])
    rw [b1, b2]
    simp (maxSteps := 2000000) -implicitDefEqProofs only [zz, ↓reduceIte, e1, h2, h3]
    rfl
  simp (maxSteps := 2000000) -implicitDefEqProofs only [zz, ↓reduceIte, e1, h2, h3]
  refine acall_flat (by first | rfl | (simp only [xports, xport, hget]; rfl)) (c_tick_Right snap) rfl ?_
  try simp (maxSteps := 2000000) -implicitDefEqProofs only [zz, zE, evop, ev, ofVal, tget, tput, ok, V.isUndef, guardOf, Ch.on, told, xport, xports, hget, hput, V.cells, V.one, sliceOf, partsV, splice, resOf, resV, resVs, ↓reduceIte, reduceCtorEq, Nat.reduceLT, Nat.reduceEqDiff, Nat.reduceAdd, Nat.reduceLeDiff, Int.reduceToNat]
  cases h4 : tickR snap with
  | false =>
    obtain ⟨b1, b2⟩ := bad (by simp [mayB, h4])
    rw [b1, b2]
    simp (maxSteps := 2000000) -implicitDefEqProofs only [zz, ↓reduceIte]
    rfl
  | true =>
    have hB : mayB c who snap = true := by
      have a1 : 1 ≤ who := by omega
      have a2 : who ≤ 8 := by omega
      simp [mayB, h1, h4, a1, a2]
    have g1 : begT c who snap = setT c.length (newT who snap) := by simp [begT, hB]
    rw [g1, if_pos hB]
    simp (maxSteps := 2000000) -implicitDefEqProofs only [zz, ↓reduceIte]
    have hs : CSpec Tryz.prog 54 [.agg [.int .i64 who, .int .i64 snap, .int .i64 0, .vec [.int .i64 0, .int .i64 0, .int .i64 0, .int .i64 0, .int .i64 0, .int .i64 0, .int .i64 0, .int .i64 0], .vec [], .vec [], .vec [], .vec [], .vec [], .int .i64 0, .int .i64 0], .vec (c.map dS)] (dT (setT c.length (newT who snap))) :=
      c_settled (newT who snap) c (by simp [newT, zeroT]) (by simp [newT, zeroT]) (by simp [newT, zeroT])
    have hok : okEl 1 (D.int IntKind.i64 0) = true := rfl
    simp (maxSteps := 2000000) -implicitDefEqProofs only [zz, zE, evop, ev, tget, tput, ok, V.isUndef, Ch.on, calleeOf, withArgs, hput, V.cells, V.one, V.clo, clos, partsV, splice, ↓reduceIte, reduceCtorEq, Nat.reduceLT, Nat.reduceEqDiff, Nat.reduceAdd, Nat.reduceLeDiff, zeroD, clos, V.clo, hok, List.replicate]
    refine ⟨by decide, ?_⟩
    refine acall_ice (by first | rfl | (simp only [xports, xport, hget]; rfl)) (hs) ?_
    try simp (maxSteps := 2000000) -implicitDefEqProofs only [zz, zE, evop, ev, tget, tput, tids, tidss, hget, hput, Blk.ice, freeze, V.cells, splice, ↓reduceIte, Nat.reduceLT, Nat.reduceEqDiff, Nat.reduceAdd, Nat.reduceLeDiff]
    simp (maxSteps := 2000000) -implicitDefEqProofs only [zz, zE, evop, ev, ofVal, tget, tput, ok, V.isUndef, Ch.on, xport, xports, hget, hput, V.one, resOf, resV, resVs, ↓reduceIte, Nat.reduceLT, Nat.reduceEqDiff, Nat.reduceAdd, Nat.reduceLeDiff, dT, tyC]
end Go.Proofs.YtjhfpabldidlgaaGreat.AM

/- A step. -/
set_option linter.all false
set_option maxRecDepth 100000
set_option maxHeartbeats 8000000
namespace Go.Proofs.YtjhfpabldidlgaaGreat.AM
open Go Go.RowKit

theorem RV.dCells {φ : Nat → Option Loc} {S : Nat → Prop} {H : Heap} {w : World} {ds : List D} {c : Value} (h : RV φ S H w (.agg (ds.map V.d)) c) : RV φ S H w (.d (.agg ds)) c := by
  cases h with
  | agg _ cs hl hh =>
    refine .d _ _ (.agg ds cs (by simpa using hl) (fun i d c hd hc => ?_))
    have := hh i (.d d) c (by simp [hd]) hc
    cases this; assumption
theorem RSpec.structArg {f : Nat} {v0 : V} {ds : List D} {H H1 : Heap} {r : V} (h : RSpec Tryz.prog f [v0, .d (.agg ds)] H r H1) : RSpec Tryz.prog f [v0, .agg (ds.map V.d)] H r H1 :=
  ⟨h.1, fun C φ S w cs hH hv => h.2 C φ S w cs hH ⟨by have := hv.len; simpa using this, fun i v c hi hc => by
    match i, hi with
    | 0, hi => exact hv.at_ 0 v c hi hc
    | 1, hi =>
      obtain rfl : _ = v := by simpa using hi
      exact RV.dCells (hv.at_ 1 _ c rfl hc)⟩⟩

/-- What a step asks. -/
structure StpOk (t : Ty) (h : List (Bool × Int)) (r : List (Int × Int)) (x : St) : Prop where
  hl : h.length ≤ 1000000
  htb : tableR r = true
  hreg : t.regs.length = 8
  hpc : 0 ≤ t.pc ∧ t.pc ≤ 1000000
  hrd : readsR t.reads = true
  hrl : t.reads.length < 24
  h1 : t.log.1.length ≤ 1000000
  h2 : t.log.2.length ≤ 1000000
  hf : t.frames.length ≤ 1000000
  hp : t.path.length ≤ 1000000
  hfr : ∀ f, t.frames.getLast? = some f → 0 ≤ f.long ∧ f.long ≤ t.path.length
  htl : x.t.length ≤ 1000000
  may : mayS x = true

theorem r_x_do (t : Ty) (h : List (Bool × Int)) (r : List (Int × Int)) (x : St) (k : StpOk t h r x) : RSpec Tryz.prog 64 [.ptr 0 0 0, .d (dS x)] [bX t h r] (.tuple []) [bX (doT t x h r) h r] := by
  obtain ⟨hl, htb, hreg, hpc, hrd, hrl, h1, h2, hf, hp, hfr, htl, may⟩ := k
  obtain ⟨g4, g7⟩ := mayS_rng may
  have hwp : IntKind.i64.wrap (t.pc + 1) = t.pc + 1 := by rw [wrap_in (by omega)]
  by_cases d1 : x.d = 1
  case pos =>
    have e1 : (x.d == 1) = true := by simpa using d1
    have hst : doT t x h r = loadT t x h r := by unfold doT; rw [if_pos d1]
    rw [hst]
    have ha : 0 ≤ x.a ∧ x.a < 8 := by unfold mayS belowI at may; rw [if_pos d1] at may; simp at may; omega
    have hr := r_x_load t h r x hl htb hreg ha hpc hrd hrl
    simp only [dS] at hr
    replace hr := RSpec.structArg hr
    simp only [List.map_cons, List.map_nil] at hr
    unfold bX at hr
    refine RSpec.of_awp envOf_ok hmix Tryz.func64 rfl (fun args w => Tryz.call64 args w) (by simp [Tryz.f64]) ?_
    simp only [Tryz.f64]
    simp (maxSteps := 2000000) -implicitDefEqProofs only [zz, zE, evop, ev, ofVal, tget, tput, ok, V.isUndef, intBin, Ch.on, calleeOf, withArgs, told, hget, hput, V.cells, structAt, isPtr, Blk.width, resOf, resVs, ↓reduceIte, reduceCtorEq, Nat.reduceLT, Nat.reduceEqDiff, Nat.reduceAdd, Nat.reduceLeDiff, nilTest, initV, dS]
    unfold bX
    simp (maxSteps := 2000000) -implicitDefEqProofs only [↓reduceIte, e1]
    refine acall_ref [0] (hr) (by first | rfl | simp [renL, V.ren, frρ, renL_ds]) (by simp) rfl (by simp) (by simp) (by intro j hj; match j, hj with | 0, _ => exact ⟨by simp [hget], rfl⟩) ?_
    try simp (maxSteps := 2000000) -implicitDefEqProofs only [zz, tput, hput, resOf, resVs, ↓reduceIte, Nat.reduceLT, Nat.reduceAdd, Blk.ren, V.ren, renL, frameH, putL]
    exact Weak.trimsM 1 (by simp) rfl (by simp [tget, V.lower, lowerL]) (by simp [Blk.lower, lowerL, V.lower])
  have e1 : (x.d == 1) = false := by simpa using d1
  by_cases d2 : x.d = 2
  case pos =>
    have e2 : (x.d == 2) = true := by simpa using d2
    have hst : doT t x h r = putT t x.a (tellT t h x.t) := by unfold doT; rw [if_neg d1, if_pos d2]
    rw [hst]
    have ha : 0 ≤ x.a ∧ x.a < 8 := by unfold mayS belowI at may; rw [if_neg d1, if_pos d2] at may; simp at may; omega
    have hr := r_x_put t h r x.a (tellT t h x.t) hreg ha hpc
    have ht := r_x_tell t h r x.t hl htl
    unfold bX at ht
    unfold bX at hr
    refine RSpec.of_awp envOf_ok hmix Tryz.func64 rfl (fun args w => Tryz.call64 args w) (by simp [Tryz.f64]) ?_
    simp only [Tryz.f64]
    simp (maxSteps := 2000000) -implicitDefEqProofs only [zz, zE, evop, ev, ofVal, tget, tput, ok, V.isUndef, intBin, Ch.on, calleeOf, withArgs, told, hget, hput, V.cells, structAt, isPtr, Blk.width, resOf, resVs, ↓reduceIte, reduceCtorEq, Nat.reduceLT, Nat.reduceEqDiff, Nat.reduceAdd, Nat.reduceLeDiff, nilTest, initV, dS]
    unfold bX
    simp (maxSteps := 2000000) -implicitDefEqProofs only [zz, ↓reduceIte, e1, e2]
    refine wdraw_plan [⟨[], false, [14, 15, 16, 17, 18, 19], [], false⟩, ⟨[], false, [13, 16, 17, 18, 19], [0], false⟩, ⟨[1], false, [13, 16, 17, 18, 19], [0], false⟩, ⟨[], false, [13, 14, 15, 17, 18], [0, 1, 2], false⟩, ⟨[], false, [13, 14, 15, 16], [0, 1, 2, 3], false⟩, ⟨[4], false, [13, 14, 15, 16], [0, 1, 2, 3], false⟩, ⟨[3, 4, 5], false, [13, 14, 15], [0, 1, 2], false⟩, ⟨[0, 1, 2, 3, 4, 5, 6], true, [], [], false⟩] (by decide) ?_
    simp (maxSteps := 2000000) -implicitDefEqProofs only [zz, zE, evop, ev, ofVal, tget, tput, ok, V.isUndef, calleeOf, withArgs, hget, hput, D.cells, loadD, structAt, Blk.width, ↓reduceIte, reduceCtorEq, Nat.reduceLT, Nat.reduceEqDiff, Nat.reduceAdd, Nat.reduceLeDiff]
    refine dcall_ref0 [0] (ht) (fun k => by first | rfl | simp [renL, V.ren, frρ, renL_ds]) (fun k => rfl) (by simp) rfl (by intro j hj; match j, hj with | 0, _ => exact ⟨by simp [hget], by simp [hget, frρ], fun k => rfl⟩) ?_
    try simp (maxSteps := 2000000) -implicitDefEqProofs only [zz]
    refine acall_ref [0] (hr) (by first | rfl | simp [renL, V.ren, frρ, renL_ds]) (by simp) rfl (by simp) (by simp) (by intro j hj; match j, hj with | 0, _ => exact ⟨by simp [hget], rfl⟩) ?_
    try simp (maxSteps := 2000000) -implicitDefEqProofs only [zz, tput, hput, resOf, resVs, ↓reduceIte, Nat.reduceLT, Nat.reduceAdd, Blk.ren, V.ren, renL, frameH, putL]
    exact Weak.trimsM 1 (by simp) rfl (by simp [tget, V.lower, lowerL]) (by simp [Blk.lower, lowerL, V.lower])
  have e2 : (x.d == 2) = false := by simpa using d2
  by_cases d3 : x.d = 3
  case pos =>
    have e3 : (x.d == 3) = true := by simpa using d3
    have hst : doT t x h r = storeT t x h := by unfold doT; rw [if_neg d1, if_neg d2, if_pos d3]
    rw [hst]
    have hr := r_x_store t h r x hl htl h1 h2 hpc
    simp only [dS] at hr
    replace hr := RSpec.structArg hr
    simp only [List.map_cons, List.map_nil] at hr
    unfold bX at hr
    refine RSpec.of_awp envOf_ok hmix Tryz.func64 rfl (fun args w => Tryz.call64 args w) (by simp [Tryz.f64]) ?_
    simp only [Tryz.f64]
    simp (maxSteps := 2000000) -implicitDefEqProofs only [zz, zE, evop, ev, ofVal, tget, tput, ok, V.isUndef, intBin, Ch.on, calleeOf, withArgs, told, hget, hput, V.cells, structAt, isPtr, Blk.width, resOf, resVs, ↓reduceIte, reduceCtorEq, Nat.reduceLT, Nat.reduceEqDiff, Nat.reduceAdd, Nat.reduceLeDiff, nilTest, initV, dS]
    unfold bX
    simp (maxSteps := 2000000) -implicitDefEqProofs only [zz, ↓reduceIte, e1, e2, e3]
    refine acall_ref [0] (hr) (by first | rfl | simp [renL, V.ren, frρ, renL_ds]) (by simp) rfl (by simp) (by simp) (by intro j hj; match j, hj with | 0, _ => exact ⟨by simp [hget], rfl⟩) ?_
    try simp (maxSteps := 2000000) -implicitDefEqProofs only [zz, tput, hput, resOf, resVs, ↓reduceIte, Nat.reduceLT, Nat.reduceAdd, Blk.ren, V.ren, renL, frameH, putL]
    exact Weak.trimsM 1 (by simp) rfl (by simp [tget, V.lower, lowerL]) (by simp [Blk.lower, lowerL, V.lower])
  have e3 : (x.d == 3) = false := by simpa using d3
  by_cases d4 : x.d = 4
  case pos =>
    have e4 : (x.d == 4) = true := by simpa using d4
    have hst : doT t x h r = skipT t x h := by unfold doT; rw [if_neg d1, if_neg d2, if_neg d3, if_pos d4]
    rw [hst]
    have hr := r_x_tell { t with pc := t.pc + 1 } h r x.t hl htl
    have htt : tellT { t with pc := t.pc + 1 } h x.t = tellT t h x.t := rfl
    rw [htt] at hr
    have hws : IntKind.i64.wrap (t.pc + 1 + x.a) = t.pc + 1 + x.a := by have := g4 d4; rw [wrap_in (by omega)]
    unfold bX at hr
    refine RSpec.of_awp envOf_ok hmix Tryz.func64 rfl (fun args w => Tryz.call64 args w) (by simp [Tryz.f64]) ?_
    simp only [Tryz.f64]
    simp (maxSteps := 2000000) -implicitDefEqProofs only [zz, zE, evop, ev, ofVal, tget, tput, ok, V.isUndef, intBin, Ch.on, calleeOf, withArgs, told, hget, hput, V.cells, structAt, isPtr, Blk.width, resOf, resVs, ↓reduceIte, reduceCtorEq, Nat.reduceLT, Nat.reduceEqDiff, Nat.reduceAdd, Nat.reduceLeDiff, nilTest, initV, dS]
    unfold bX
    simp (maxSteps := 2000000) -implicitDefEqProofs only [zz, zE, evop, ev, ofVal, tget, tput, ok, V.isUndef, intBin, Ch.on, calleeOf, withArgs, hget, hput, V.cells, V.one, structAt, isPtr, Blk.width, splice, ↓reduceIte, reduceCtorEq, Nat.reduceLT, Nat.reduceEqDiff, Nat.reduceAdd, Nat.reduceLeDiff, nilTest, e1, e2, e3, e4, hwp]
    refine acall_ref [0] (hr) (by first | rfl | simp [renL, V.ren, frρ, renL_ds]) (by simp) rfl (by simp) (by simp) (by intro j hj; match j, hj with | 0, _ => exact ⟨by simp [hget], rfl⟩) ?_
    try simp (maxSteps := 2000000) -implicitDefEqProofs only [zz, evop, ev, ofVal, tget, tput, intBin, Ch.on, told, hput, resOf, resVs, ↓reduceIte, Nat.reduceLT, Nat.reduceAdd, nilTest, Blk.ren, V.ren, renL, frameH, putL]
    by_cases hz : tellT t h x.t = 0
    · have ez : (tellT t h x.t == 0) = true := by simpa using hz
      have hsk : skipT t x h = { t with pc := t.pc + 1 + x.a } := by unfold skipT; rw [if_pos hz]
      rw [hsk]
      simp (maxSteps := 2000000) -implicitDefEqProofs only [↓reduceIte, ez]
      refine wdraw_plan [⟨[], false, [47, 48], [], false⟩, ⟨[0], false, [47, 48], [], false⟩, ⟨[0, 1], false, [47, 48], [], false⟩, ⟨[0, 1, 2], false, [47, 48], [], false⟩, ⟨[0, 1, 2, 3], false, [47, 48], [], false⟩, ⟨[], false, [42, 43, 44, 45, 46], [0, 1, 2, 3, 4], false⟩, ⟨[5], false, [42, 43, 44, 45, 46], [0, 1, 2, 3, 4], false⟩, ⟨[0, 1, 2, 3, 4, 5, 6], true, [], [], false⟩, ⟨[0, 1, 2, 3, 4, 5, 6, 7], true, [], [], false⟩, ⟨[0, 1, 2, 3, 4, 5, 6, 7, 8], true, [], [], false⟩, ⟨[0, 1, 2, 3, 4, 5, 6, 7, 8, 9], true, [], [], false⟩, ⟨[0, 1, 2, 3, 4, 5, 6, 7, 8, 9, 10], true, [], [], false⟩] (by decide) ?_
      simp (maxSteps := 2000000) -implicitDefEqProofs only [zz, zE, evop, ev, tget, tput, ok, V.isUndef, intBin, Ch.on, hget, hput, V.cells, D.cells, V.isAgg, V.one, loadD, structAt, isPtr, Blk.width, splice, resOf, resVs, ↓reduceIte, reduceCtorEq, Nat.reduceLT, Nat.reduceEqDiff, Nat.reduceAdd, Nat.reduceLeDiff, hws]
      exact Weak.trimsM 1 (by simp) rfl (by simp [tget, V.lower, lowerL]) (by simp [Blk.lower, lowerL, V.lower])
    have ez : (tellT t h x.t == 0) = false := by simpa using hz
    have hsk : skipT t x h = { t with pc := t.pc + 1 } := by unfold skipT; rw [if_neg hz]
    rw [hsk]
    simp (maxSteps := 2000000) -implicitDefEqProofs only [zz, ↓reduceIte, ez]
    exact Weak.trimsM 1 (by simp) rfl (by simp [tget, V.lower, lowerL]) (by simp [Blk.lower, lowerL, V.lower])
  have e4 : (x.d == 4) = false := by simpa using d4
  by_cases d5 : x.d = 5
  case pos =>
    have e5 : (x.d == 5) = true := by simpa using d5
    have hst : doT t x h r = agT t := by unfold doT; rw [if_neg d1, if_neg d2, if_neg d3, if_neg d4, if_pos d5]
    rw [hst]
    have hr := r_x_again t h r h1 h2 hf hp hfr
    unfold bX at hr
    refine RSpec.of_awp envOf_ok hmix Tryz.func64 rfl (fun args w => Tryz.call64 args w) (by simp [Tryz.f64]) ?_
    simp only [Tryz.f64]
    simp (maxSteps := 2000000) -implicitDefEqProofs only [zz, zE, evop, ev, ofVal, tget, tput, ok, V.isUndef, intBin, Ch.on, calleeOf, withArgs, told, hget, hput, V.cells, structAt, isPtr, Blk.width, resOf, resVs, ↓reduceIte, reduceCtorEq, Nat.reduceLT, Nat.reduceEqDiff, Nat.reduceAdd, Nat.reduceLeDiff, nilTest, initV, dS]
    unfold bX
    simp (maxSteps := 2000000) -implicitDefEqProofs only [zz, ↓reduceIte, e1, e2, e3, e4, e5]
    refine acall_ref [0] (hr) (by first | rfl | simp [renL, V.ren, frρ, renL_ds]) (by simp) rfl (by simp) (by simp) (by intro j hj; match j, hj with | 0, _ => exact ⟨by simp [hget], rfl⟩) ?_
    try simp (maxSteps := 2000000) -implicitDefEqProofs only [zz, tput, hput, resOf, resVs, ↓reduceIte, Nat.reduceLT, Nat.reduceAdd, Blk.ren, V.ren, renL, frameH, putL]
    exact Weak.trimsM 1 (by simp) rfl (by simp [tget, V.lower, lowerL]) (by simp [Blk.lower, lowerL, V.lower])
  have e5 : (x.d == 5) = false := by simpa using d5
  by_cases d6 : x.d = 6
  case pos =>
    have e6 : (x.d == 6) = true := by simpa using d6
    have hst : doT t x h r = endT t 3 x.a := by unfold doT; rw [if_neg d1, if_neg d2, if_neg d3, if_neg d4, if_neg d5, if_pos d6]
    rw [hst]
    have hr := r_x_end t h r 3 x.a
    unfold bX at hr
    refine RSpec.of_awp envOf_ok hmix Tryz.func64 rfl (fun args w => Tryz.call64 args w) (by simp [Tryz.f64]) ?_
    simp only [Tryz.f64]
    simp (maxSteps := 2000000) -implicitDefEqProofs only [zz, zE, evop, ev, ofVal, tget, tput, ok, V.isUndef, intBin, Ch.on, calleeOf, withArgs, told, hget, hput, V.cells, structAt, isPtr, Blk.width, resOf, resVs, ↓reduceIte, reduceCtorEq, Nat.reduceLT, Nat.reduceEqDiff, Nat.reduceAdd, Nat.reduceLeDiff, nilTest, initV, dS]
    unfold bX
    simp (maxSteps := 2000000) -implicitDefEqProofs only [zz, ↓reduceIte, e1, e2, e3, e4, e5, e6]
    refine acall_ref [0] (hr) (by first | rfl | simp [renL, V.ren, frρ, renL_ds]) (by simp) rfl (by simp) (by simp) (by intro j hj; match j, hj with | 0, _ => exact ⟨by simp [hget], rfl⟩) ?_
    try simp (maxSteps := 2000000) -implicitDefEqProofs only [zz, tput, hput, resOf, resVs, ↓reduceIte, Nat.reduceLT, Nat.reduceAdd, Blk.ren, V.ren, renL, frameH, putL]
    exact Weak.trimsM 1 (by simp) rfl (by simp [tget, V.lower, lowerL]) (by simp [Blk.lower, lowerL, V.lower])
  have e6 : (x.d == 6) = false := by simpa using d6
  have d7 : x.d = 7 := by
    unfold mayS at may
    rw [if_neg d1, if_neg d2, if_neg d3, if_neg d4, if_neg d5, if_neg d6] at may
    simp at may
    omega
  have e7 : (x.d == 7) = true := by simpa using d7
  have hst : doT t x h r = eiT t x := by unfold doT; rw [if_neg d1, if_neg d2, if_neg d3, if_neg d4, if_neg d5, if_neg d6]
  rw [hst]
  have hg := g7 d7
  have hr := r_x_either t h r x h1 h2 hpc ⟨by omega, by omega⟩ ⟨by omega, by omega⟩ hf hp
  simp only [dS] at hr
  replace hr := RSpec.structArg hr
  simp only [List.map_cons, List.map_nil] at hr
  unfold bX at hr
  refine RSpec.of_awp envOf_ok hmix Tryz.func64 rfl (fun args w => Tryz.call64 args w) (by simp [Tryz.f64]) ?_
  simp only [Tryz.f64]
  simp (maxSteps := 2000000) -implicitDefEqProofs only [zz, zE, evop, ev, ofVal, tget, tput, ok, V.isUndef, intBin, Ch.on, calleeOf, withArgs, told, hget, hput, V.cells, structAt, isPtr, Blk.width, resOf, resVs, ↓reduceIte, reduceCtorEq, Nat.reduceLT, Nat.reduceEqDiff, Nat.reduceAdd, Nat.reduceLeDiff, nilTest, initV, dS]
  unfold bX
  simp (maxSteps := 2000000) -implicitDefEqProofs only [zz, ↓reduceIte, e1, e2, e3, e4, e5, e6, e7]
  refine acall_ref [0] (hr) (by first | rfl | simp [renL, V.ren, frρ, renL_ds]) (by simp) rfl (by simp) (by simp) (by intro j hj; match j, hj with | 0, _ => exact ⟨by simp [hget], rfl⟩) ?_
  try simp (maxSteps := 2000000) -implicitDefEqProofs only [zz, tput, hput, resOf, resVs, ↓reduceIte, Nat.reduceLT, Nat.reduceAdd, Blk.ren, V.ren, renL, frameH, putL]
  exact Weak.trimsM 1 (by simp) rfl (by simp [tget, V.lower, lowerL]) (by simp [Blk.lower, lowerL, V.lower])
end Go.Proofs.YtjhfpabldidlgaaGreat.AM

/- Step. -/
set_option linter.all false
set_option maxRecDepth 100000
set_option maxHeartbeats 8000000
namespace Go.Proofs.YtjhfpabldidlgaaGreat.AM
open Go Go.RowKit

theorem stpOk_of {c : List St} (hc : CodeOk c) {t : Ty} (hi : InvS c t) {h : List (Bool × Int)} {r : List (Int × Int)} (hl : h.length ≤ 1000000) (htl : ∀ s ∈ c, s.t.length ≤ 1000000) (hm : mayT t h r = true) {x : St} (hx : c[t.pc.toNat]? = some x) : StpOk t h r x := by
  simp only [mayT, Bool.and_eq_true, decide_eq_true_eq] at hm
  obtain ⟨⟨hh, hr⟩, hk⟩ := hm
  obtain ⟨a1, a2, a3, a4, a5, a6, a7, a8⟩ := hi.toInvT.lens hc
  obtain ⟨hlt, hst⟩ := hi.run hk
  have hrl := hi.rlen
  have hcl := hc.len
  refine ⟨hl, hr, a1, ⟨a8, by omega⟩, hi.rds, by omega, by omega, by omega, by omega, by omega, fun f hf => ?_, htl x (List.mem_of_getElem? hx), hc.may x (List.mem_of_getElem? hx)⟩
  have hfr := hi.fr
  cases hrv : t.frames.reverse with
  | nil =>
    have : t.frames = [] := by simpa using hrv
    rw [this] at hf; simp at hf
  | cons g fs =>
    obtain ⟨s1, s2, s3, s4, s5⟩ := reverse_split hrv
    rw [s2] at hf
    cases hf
    rw [hrv] at hfr
    obtain ⟨m, e, k, h1, h2, h3, h4, h5, h6, h7, h8, h9⟩ := hfr
    have := (List.getElem?_eq_some_iff.1 h4).1
    rw [h3]
    omega

theorem c_attempt_Step (c : List St) (t : Ty) (h : List (Bool × Int)) (r : List (Int × Int)) (hc : CodeOk c) (hi : InvS c t) (hl : h.length ≤ 1000000) (htl : ∀ s ∈ c, s.t.length ≤ 1000000) :
    CSpec Tryz.prog 20 [dT t, .vec (c.map dS), .vec (h.map dC), .vec (r.map dW)] (.tuple [dT (stepT t c h r), .int .i64 (if mayT t h r = true then 0 else 1)]) := by
  have bad : mayT t h r = false → stepT t c h r = t ∧ (if mayT t h r = true then (0 : Int) else 1) = 1 := fun e => by simp [stepT, e]
  have hpc0 := hi.pc0
  refine CSpec.of_awp envOf_ok hmix Tryz.func20 rfl (fun args w => Tryz.call20 args w) (by simp [Tryz.f20]) ?_
  simp only [Tryz.f20]
  simp (maxSteps := 2000000) -implicitDefEqProofs only [zz, zE, evop, ev, tget, V.isUndef, initT, V.cells, ↓reduceIte, Nat.reduceAdd]
  unfold dT tyC
  simp (maxSteps := 2000000) -implicitDefEqProofs only [zz, zE, evop, ev, ofVal, tget, tput, ok, V.isUndef, Ch.on, calleeOf, withArgs, hput, ↓reduceIte, reduceCtorEq, Nat.reduceLT, Nat.reduceEqDiff]
  refine acall_flat (by first | rfl | (simp only [xports, xport, hget]; rfl)) (c_heap_Right h) rfl ?_
  try simp (maxSteps := 2000000) -implicitDefEqProofs only [zz, zE, evop, ev, ofVal, tget, tput, ok, V.isUndef, guardOf, Ch.on, calleeOf, withArgs, told, xport, xports, hget, hput, V.cells, V.one, splice, resOf, resV, resVs, ↓reduceIte, reduceCtorEq, Nat.reduceLT, Nat.reduceEqDiff, Nat.reduceAdd, Nat.reduceLeDiff]
  cases hh : heapR h with
  | false =>
    obtain ⟨b1, b2⟩ := bad (by simp [mayT, hh])
    rw [b1, b2]
    simp (maxSteps := 2000000) -implicitDefEqProofs only [zz, ↓reduceIte]
  | true =>
    simp (maxSteps := 2000000) -implicitDefEqProofs only [zz, ↓reduceIte]
    refine acall_flat (by first | rfl | (simp only [xports, xport, hget]; rfl)) (c_stripe_Right r) rfl ?_
    try simp (maxSteps := 2000000) -implicitDefEqProofs only [zz, zE, evop, ev, ofVal, tget, tput, ok, V.isUndef, intBin, guardOf, Ch.on, told, xport, xports, hget, hput, V.cells, D.cells, V.one, structAt, sliceOf, partsV, Blk.width, lenOf, splice, resOf, resV, resVs, ↓reduceIte, reduceCtorEq, Nat.reduceLT, Nat.reduceEqDiff, Nat.reduceAdd, Nat.reduceLeDiff, nilTest]
    cases hr : tableR r with
    | false =>
      obtain ⟨b1, b2⟩ := bad (by simp [mayT, hr])
      rw [b1, b2]
      simp (maxSteps := 2000000) -implicitDefEqProofs only [zz, ↓reduceIte]
    | true =>
      by_cases hk : t.kind = 0
      case neg =>
        obtain ⟨b1, b2⟩ := bad (by simp [mayT, hk])
        have ek : (t.kind != 0) = true := by simpa using hk
        rw [b1, b2]
        simp (maxSteps := 2000000) -implicitDefEqProofs only [zz, ↓reduceIte, ek]
      have ek : (t.kind != 0) = false := by simpa using hk
      obtain ⟨hlt, hst⟩ := hi.run hk
      have hmay : mayT t h r = true := by simp [mayT, hh, hr, hk]
      have p1 : ¬ (t.pc < 0) := by omega
      have p2 : ¬ (t.pc ≥ (c.length : Int)) := by omega
      have hx : c[t.pc.toNat]? = some (c[t.pc.toNat]'(by omega)) := List.getElem?_eq_getElem (by omega)
      generalize c[t.pc.toNat]'(by omega) = x at hx
      have hg : stepT t c h r = if (doT t x h r).kind ≠ 0 then doT t x h r else setT c.length (doT t x h r) := by unfold stepT; rw [if_pos hmay]; unfold stpT; rw [hx]
      have hd := r_x_do t h r x (stpOk_of hc hi hl htl hmay hx)
      obtain ⟨inv, _, _, _⟩ := hi.doT hc hmay hx
      obtain ⟨a1, a2, a3, a4, a5, a6, a7, a8⟩ := inv.lens hc
      have hs := c_settled (doT t x h r) c (by omega) (by omega) (by omega)
      rw [hg, if_pos hmay]
      simp only [dS] at hd
      unfold bX at hd
      simp (maxSteps := 2000000) -implicitDefEqProofs only [zz, zE, evop, ev, tget, tput, ok, Ch.on, calleeOf, withArgs, D.cells, loadD, ↓reduceIte, Nat.reduceLT, Nat.reduceEqDiff, Nat.reduceAdd, Nat.reduceLeDiff, dS, ek, p1, p2, List.getElem?_map, hx, Option.map_some, hpc0]
      refine acall_ref [2] (hd) (by first | rfl | simp [renL, V.ren, frρ, renL_ds]) (by simp) rfl (by simp) (by simp) (by intro j hj; match j, hj with | 0, _ => exact ⟨by simp [hget], rfl⟩) ?_
      try simp (maxSteps := 2000000) -implicitDefEqProofs only [zz, zE, evop, ev, ofVal, tget, tput, ok, V.isUndef, intBin, Ch.on, calleeOf, withArgs, told, xport, xports, hget, hput, V.cells, V.one, structAt, isPtr, Blk.width, splice, resOf, resV, resVs, ↓reduceIte, reduceCtorEq, Nat.reduceLT, Nat.reduceEqDiff, Nat.reduceAdd, Nat.reduceLeDiff, nilTest, Blk.ren, V.ren, renL, frameH, putL]
      generalize doT t x h r = u at hs
      by_cases hu : u.kind = 0
      · have eu : (u.kind != 0) = false := by simpa using hu
        have hn := not_not_intro hu
        rw [if_neg hn]
        unfold dT tyC at hs
        simp (maxSteps := 2000000) -implicitDefEqProofs only [zz, ↓reduceIte, eu]
        refine acall_ice (by first | rfl | (simp only [xports, xport, hget]; rfl)) (hs) ?_
        try simp (maxSteps := 2000000) -implicitDefEqProofs only [zz, zE, evop, ev, ofVal, tget, tput, ok, V.isUndef, Ch.on, xport, xports, tids, tidss, hget, hput, freeze, V.cells, V.one, splice, resOf, resV, resVs, ↓reduceIte, Nat.reduceLT, Nat.reduceEqDiff, Nat.reduceAdd, Nat.reduceLeDiff]
      · have eu : (u.kind != 0) = true := by simpa using hu
        rw [if_pos hu]
        simp (maxSteps := 2000000) -implicitDefEqProofs only [↓reduceIte, eu]
end Go.Proofs.YtjhfpabldidlgaaGreat.AM

/- Codes and tries as the document's; small ones; Run. -/
set_option linter.all false
set_option maxRecDepth 100000
set_option maxHeartbeats 8000000
namespace Go.Proofs.YtjhfpabldidlgaaGreat.AM
open Go Go.RowKit

def smallC (c : List St) : Int := if (c.any fun s => decide (20 < s.t.length)) = true ∨ 40 < c.length then -1 else c.length
theorem smallC_0 {c : List St} (h : ¬ smallC c < 0) : c.length ≤ 40 ∧ ∀ s ∈ c, s.t.length ≤ 20 := by
  unfold smallC at h
  split at h
  · simp at h
  · rename_i h1
    simp only [not_or, List.any_eq_true, decide_eq_true_eq, not_exists, not_and, Nat.not_lt] at h1
    exact ⟨h1.2, h1.1⟩

theorem c_law08_Small (c : List St) (hl : c.length ≤ 9223372036854775807) : CSpec Tryz.prog 12 [.vec (c.map dS)] (.int .i64 (smallC c)) := by
  refine CSpec.of_awp envOf_ok hmix Tryz.func12 rfl (fun args w => Tryz.call12 args w) (by simp [Tryz.f12]) ?_
  simp only [Tryz.f12]
  simp (maxSteps := 2000000) -implicitDefEqProofs only [zz, zE, evop, ev, ofVal, tget, tput, ok, V.isUndef, initT, Ch.on, sliceOf, lenOf, ↓reduceIte, reduceCtorEq, Nat.reduceLT, Int.reduceNeg]
  refine wloop_count c.length (fun i => [(7, .d (.int .i64 i)), (6, .d (.int .i64 c.length)), (5, .d (.vec (c.map dS))), (0, .d (.vec (c.map dS)))]) (fun _ => []) (fun i => ∀ (j : Nat) (x : St), j < i → c[j]? = some x → x.t.length ≤ 20) (fun j x hj => by omega) (Weak.sub (by simp [tget])) (fun i hi hI => ?_) (fun hI => ?_)
  · have hx : c[i]? = some c[i] := List.getElem?_eq_getElem hi
    have h' : ((i : Int) < (c.length : Int)) := by omega
    have hw : IntKind.i64.wrap ((i : Int) + 1) = ((i + 1 : Nat) : Int) := by rw [wrap_in (by omega)]; omega
    simp (maxSteps := 2000000) -implicitDefEqProofs only [zz, zE, evop, ev, ofVal, tget, tput, ok, V.isUndef, intBin, Ch.on, told, xport, hget, hput, V.cells, D.cells, V.one, loadD, structAt, sliceOf, Blk.width, lenOf, splice, resOf, resV, resVs, ↓reduceIte, reduceCtorEq, Nat.reduceLT, Nat.reduceEqDiff, Nat.reduceAdd, Nat.reduceLeDiff, Int.reduceNeg, nilTest, dS, h', List.getElem?_map, hx, Option.map_some, Int.natCast_nonneg, hw]
    by_cases h20 : ((c[i].t.length : Int) > 20)
    · simp (maxSteps := 2000000) -implicitDefEqProofs only [↓reduceIte, Int.reduceNeg, h20]
      have : (c.any fun s => decide (20 < s.t.length)) = true := List.any_eq_true.2 ⟨_, List.getElem_mem hi, by simp; omega⟩
      simp [smallC, this]
    · simp (maxSteps := 2000000) -implicitDefEqProofs only [zz, ↓reduceIte, h20]
      refine ⟨fun j x hj hxj => ?_, Weak.trims 0 rfl (by simp [tget, V.lower]) (by simp)⟩
      by_cases e : j = i
      · subst e; rw [hx] at hxj; cases hxj; omega
      · exact hI j x (by omega) hxj
  · have h' : ¬ ((c.length : Int) < (c.length : Int)) := by omega
    have hany : (c.any fun s => decide (20 < s.t.length)) = false := by
      rw [List.any_eq_false]
      intro x hx
      obtain ⟨j, hj, rfl⟩ := List.getElem_of_mem hx
      have := hI j _ hj (List.getElem?_eq_getElem hj)
      simp; omega
    by_cases h40 : ((c.length : Int) > 40)
    · simp (maxSteps := 2000000) -implicitDefEqProofs only [zz, zE, evop, ev, ofVal, tget, tput, ok, V.isUndef, intBin, Ch.on, told, xport, sliceOf, lenOf, resOf, resV, resVs, ↓reduceIte, reduceCtorEq, Nat.reduceLT, Nat.reduceEqDiff, Int.reduceNeg, nilTest, h', h40]
      have : 40 < c.length := by omega
      simp [smallC, this]
    · simp (maxSteps := 2000000) -implicitDefEqProofs only [zz, zE, evop, ev, ofVal, tget, tput, ok, V.isUndef, intBin, Ch.on, told, xport, sliceOf, lenOf, resOf, resV, resVs, ↓reduceIte, reduceCtorEq, Nat.reduceLT, Nat.reduceEqDiff, Int.reduceNeg, nilTest, h', h40]
      have : ¬ 40 < c.length := by omega
      simp [smallC, this, hany]

/-- A heap, and a table. -/
abbrev Wo := List (Bool × Int) × List (Int × Int)
def dWo (w : Wo) : D := .agg [.vec (w.1.map dC), .vec (w.2.map dW)]
def smallL (l : List Wo) : Bool := (l.all fun w => decide (w.1.length ≤ 80) && decide (w.2.length ≤ 30)) && decide (l.length ≤ 60)
theorem smallL_t {l : List Wo} (h : smallL l = true) : l.length ≤ 60 ∧ ∀ w ∈ l, w.1.length ≤ 80 ∧ w.2.length ≤ 30 := by
  simp only [smallL, Bool.and_eq_true, List.all_eq_true, decide_eq_true_eq] at h
  exact ⟨h.2, h.1⟩

theorem c_law11_small (l : List Wo) (hl : l.length ≤ 9223372036854775807) : CSpec Tryz.prog 13 [.vec (l.map dWo)] (.bool (smallL l)) := by
  refine CSpec.of_awp envOf_ok hmix Tryz.func13 rfl (fun args w => Tryz.call13 args w) (by simp [Tryz.f13]) ?_
  simp only [Tryz.f13]
  simp (maxSteps := 2000000) -implicitDefEqProofs only [zz, zE, evop, ev, ofVal, tget, tput, ok, V.isUndef, initT, Ch.on, sliceOf, lenOf, ↓reduceIte, reduceCtorEq, Nat.reduceLT]
  refine wloop_count l.length (fun i => [(7, .d (.int .i64 i)), (6, .d (.int .i64 l.length)), (5, .d (.vec (l.map dWo))), (0, .d (.vec (l.map dWo)))]) (fun _ => []) (fun i => ∀ (j : Nat) (x : Wo), j < i → l[j]? = some x → x.1.length ≤ 80 ∧ x.2.length ≤ 30) (fun j x hj => by omega) (Weak.sub (by simp [tget])) (fun i hi hI => ?_) (fun hI => ?_)
  · have hx : l[i]? = some l[i] := List.getElem?_eq_getElem hi
    have h' : ((i : Int) < (l.length : Int)) := by omega
    have hw : IntKind.i64.wrap ((i : Int) + 1) = ((i + 1 : Nat) : Int) := by rw [wrap_in (by omega)]; omega
    have bad : ¬ (l[i].1.length ≤ 80 ∧ l[i].2.length ≤ 30) → smallL l = false := fun h => by
      cases hs : smallL l with
      | false => rfl
      | true => exact absurd ((smallL_t hs).2 _ (List.getElem_mem hi)) h
    simp (maxSteps := 2000000) -implicitDefEqProofs only [zz, zE, evop, ev, ofVal, tget, tput, ok, V.isUndef, intBin, guardOf, Ch.on, told, xport, hget, hput, V.cells, D.cells, V.one, loadD, structAt, sliceOf, Blk.width, lenOf, splice, resOf, resV, resVs, ↓reduceIte, reduceCtorEq, Nat.reduceLT, Nat.reduceEqDiff, Nat.reduceAdd, Nat.reduceLeDiff, nilTest, h', dWo, List.getElem?_map, hx, Option.map_some, Int.natCast_nonneg, hw]
    by_cases h80 : ((l[i].1.length : Int) > 80)
    · simp (maxSteps := 2000000) -implicitDefEqProofs only [zz, ↓reduceIte, h80]
      rw [bad (by omega)]
    by_cases h30 : ((l[i].2.length : Int) > 30)
    · simp (maxSteps := 2000000) -implicitDefEqProofs only [zz, ↓reduceIte, h80, h30]
      rw [bad (by omega)]
    simp (maxSteps := 2000000) -implicitDefEqProofs only [zz, ↓reduceIte, h80, h30]
    refine ⟨fun j x hj hxj => ?_, Weak.trims 0 rfl (by simp [tget, V.lower, dWo]) (by simp)⟩
    by_cases e : j = i
    · subst e; rw [hx] at hxj; cases hxj; omega
    · exact hI j x (by omega) hxj
  · have h' : ¬ ((l.length : Int) < (l.length : Int)) := by omega
    have hall : (l.all fun w => decide (w.1.length ≤ 80) && decide (w.2.length ≤ 30)) = true := by
      rw [List.all_eq_true]
      intro x hx
      obtain ⟨j, hj, rfl⟩ := List.getElem_of_mem hx
      have := hI j _ hj (List.getElem?_eq_getElem hj)
      simp; omega
    by_cases h60 : ((l.length : Int) ≤ 60)
    · simp (maxSteps := 2000000) -implicitDefEqProofs only [zz, zE, evop, ev, ofVal, tget, tput, ok, V.isUndef, intBin, Ch.on, told, xport, sliceOf, lenOf, resOf, resV, resVs, ↓reduceIte, reduceCtorEq, Nat.reduceLT, Nat.reduceEqDiff, nilTest, h', h60]
      have : l.length ≤ 60 := by omega
      simp [smallL, this, hall]
    · simp (maxSteps := 2000000) -implicitDefEqProofs only [zz, zE, evop, ev, ofVal, tget, tput, ok, V.isUndef, intBin, Ch.on, told, xport, sliceOf, lenOf, resOf, resV, resVs, ↓reduceIte, reduceCtorEq, Nat.reduceLT, Nat.reduceEqDiff, nilTest, h', h60]
      have : ¬ l.length ≤ 60 := by omega
      simp [smallL, this]
end Go.Proofs.YtjhfpabldidlgaaGreat.AM

/- Run. -/
set_option linter.all false
set_option maxRecDepth 100000
set_option maxHeartbeats 8000000
namespace Go.Proofs.YtjhfpabldidlgaaGreat.AM
open Go Go.RowKit

/-- Step by step, so often at most: the try, and how many steps it took. -/
def itT (c : List St) (h : List (Bool × Int)) (r : List (Int × Int)) : Nat → Ty → Ty × Nat
  | 0, t => (t, 0)
  | k + 1, t => if t.kind = 0 then ((itT c h r k (stpT t c h r)).1, (itT c h r k (stpT t c h r)).2 + 1) else (t, 0)
def okW (h : List (Bool × Int)) (r : List (Int × Int)) : Bool := heapR h && tableR r
def runT (t : Ty) (c : List St) (h : List (Bool × Int)) (r : List (Int × Int)) : Ty × Nat := itT c h r (c.length + 1) t

theorem itT_stop {c : List St} {h : List (Bool × Int)} {r : List (Int × Int)} {k : Nat} {t : Ty} (hk : t.kind ≠ 0) : itT c h r k t = (t, 0) := by
  cases k with
  | zero => rfl
  | succ k => rw [itT, if_neg hk]

theorem itT_ok {c : List St} (hc : CodeOk c) {h : List (Bool × Int)} {r : List (Int × Int)} (hw : okW h r = true) : ∀ (k : Nat) (t : Ty), InvS c t → (c.length : Int) - t.pc < k → InvS c (itT c h r k t).1 ∧ (itT c h r k t).1.kind ≠ 0 ∧ (itT c h r k t).1.snap = t.snap
  | 0, t, hi, hk => by have := hi.pcl; omega
  | k + 1, t, hi, hk => by
    rw [itT]
    by_cases h0 : t.kind = 0
    · rw [if_pos h0]
      have hm : mayT t h r = true := by simp only [okW] at hw; simp [mayT, hw, h0]
      obtain ⟨s1, s2, s3, s4⟩ := hi.stp hc hm
      by_cases h1 : (stpT t c h r).kind = 0
      · have := s3 h1
        obtain ⟨i1, i2, i3⟩ := itT_ok hc hw k _ s1 (by omega)
        exact ⟨i1, i2, by simp only; rw [i3, s2]⟩
      · rw [itT_stop h1]
        exact ⟨s1, h1, s2⟩
    · rw [if_neg h0]
      exact ⟨hi, h0, rfl⟩

theorem runT_ok {c : List St} (hc : CodeOk c) {h : List (Bool × Int)} {r : List (Int × Int)} (hw : okW h r = true) {t : Ty} (hi : InvS c t) : InvS c (runT t c h r).1 ∧ (runT t c h r).1.kind ≠ 0 ∧ (runT t c h r).1.snap = t.snap :=
  itT_ok hc hw _ t hi (by have := hi.pc0; omega)

theorem c_attempt_Run (c : List St) (t : Ty) (h : List (Bool × Int)) (r : List (Int × Int)) (hc : CodeOk c) (hi : InvS c t) (hl : h.length ≤ 1000000) (htl : ∀ s ∈ c, s.t.length ≤ 1000000) :
    CSpec Tryz.prog 51 [dT t, .vec (c.map dS), .vec (h.map dC), .vec (r.map dW)]
      (if t.kind = 0 ∧ okW h r = false then .tuple [dT t, .int .i64 0, .int .i64 1] else .tuple [dT (runT t c h r).1, .int .i64 (runT t c h r).2, .int .i64 0]) := by
  have hcl := hc.len
  refine CSpec.of_awp envOf_ok hmix Tryz.func51 rfl (fun args w => Tryz.call51 args w) (by simp [Tryz.f51]) ?_
  simp only [Tryz.f51]
  simp (maxSteps := 2000000) -implicitDefEqProofs only [zz, zE, evop, ev, tget, V.isUndef, initT, V.cells, ↓reduceIte, Nat.reduceAdd]
  unfold dT tyC
  simp (maxSteps := 2000000) -implicitDefEqProofs only [zz, zE, evop, ev, ofVal, tget, tput, ok, V.isUndef, Ch.on, hget, hput, V.cells, V.one, splice, ↓reduceIte, Nat.reduceLT, Nat.reduceEqDiff, Nat.reduceAdd, Nat.reduceLeDiff]
  refine wloop_ind (σ := Ty × Nat) (fun z => c.length + 5 - z.2) (fun z => [(11, .ptr 2 0 0), (12, .d (.int .i64 z.2)), (4, .ptr 0 0 0), (8, .ptr 1 0 0), (1, .d (.vec (c.map dS))), (2, .d (.vec (h.map dC))), (3, .d (.vec (r.map dW)))]) (fun z => [bT t, bZ, bT z.1])
    (fun z => z.2 ≤ c.length + 1 ∧ (itT c h r (c.length + 1) t).1 = (itT c h r (c.length + 1 - z.2) z.1).1 ∧ (itT c h r (c.length + 1) t).2 = z.2 + (itT c h r (c.length + 1 - z.2) z.1).2 ∧ InvS c z.1 ∧ ((z.2 : Int) ≤ z.1.pc + 1) ∧ (z.1.kind = 0 → (z.2 : Int) ≤ z.1.pc) ∧ (okW h r = false → z.1 = t ∧ z.2 = 0)) (t, 0) ⟨by simp, by simp, by simp, hi, by have := hi.pc0; simp only; omega, fun _ => by have := hi.pc0; simp only; omega, fun _ => ⟨rfl, rfl⟩⟩ ?_ ?_
  · exact Weak.trims 3 rfl (by simp [tget, V.lower]) (by simp [bT, bZ, Blk.lower, lowerL, V.lower])
  rintro ⟨u, n⟩ ⟨hn, e1, e2, hu, hp1, hp2, hbad⟩
  simp only at hn e1 e2 hu hp1 hp2 hbad
  by_cases hk : u.kind = 0
  case neg =>
    have ek : (u.kind == 0) = false := by simpa using hk
    rw [itT_stop hk] at e1 e2
    have hne : ¬ (t.kind = 0 ∧ okW h r = false) := fun g => hk (by rw [(hbad g.2).1]; exact g.1)
    have g1 : (runT t c h r).1 = u := e1
    have g2 : (runT t c h r).2 = n := e2
    rw [if_neg hne, g1, g2]
    simp (maxSteps := 2000000) -implicitDefEqProofs only [zz, zE, evop, ev, ofVal, tget, tput, ok, V.isUndef, intBin, Ch.on, told, xport, xports, hget, hput, V.cells, V.one, structAt, Blk.width, splice, resOf, resV, resVs, ↓reduceIte, reduceCtorEq, Nat.reduceLT, Nat.reduceEqDiff, Nat.reduceAdd, Nat.reduceLeDiff, nilTest, bT, bZ, ek]
  have ek : (u.kind == 0) = true := by simpa using hk
  have hst := c_attempt_Step c u h r hc hu hl htl
  have hsu := hp2 hk
  have hpl := (hu.run hk).1
  cases hw : okW h r with
  | false =>
    have hm : mayT u h r = false := by simp only [okW] at hw; simp [mayT, hw]
    obtain ⟨q1, q2⟩ := hbad hw
    subst q1
    have hs1 : stepT u c h r = u := by simp [stepT, hm]
    rw [hs1, hm] at hst
    rw [if_pos ⟨hk, rfl⟩]
    unfold dT tyC at hst
    have e10 : ((1 : Int) != 0) = true := rfl
    simp (maxSteps := 2000000) -implicitDefEqProofs only [zz, zE, evop, ev, ofVal, tget, tput, ok, V.isUndef, intBin, Ch.on, calleeOf, withArgs, told, hget, structAt, Blk.width, ↓reduceIte, reduceCtorEq, Nat.reduceLT, Nat.reduceEqDiff, Nat.reduceAdd, Nat.reduceLeDiff, nilTest, bT, bZ, ek]
    refine acall_ice (by first | rfl | (simp only [xports, xport, hget]; rfl)) (hst) ?_
    try simp (maxSteps := 2000000) -implicitDefEqProofs only [zz, zE, evop, ev, ofVal, tget, tput, ok, V.isUndef, intBin, Ch.on, told, xport, xports, tids, tidss, hget, hput, freeze, V.cells, V.one, splice, resOf, resV, resVs, ↓reduceIte, Nat.reduceLT, Nat.reduceEqDiff, Nat.reduceAdd, Nat.reduceLeDiff, nilTest]
    simp (maxSteps := 2000000) -implicitDefEqProofs only [↓reduceIte, e10]
  | true =>
    have hm : mayT u h r = true := by simp only [okW] at hw; simp [mayT, hw, hk]
    have hs1 : stepT u c h r = stpT u c h r := by simp [stepT, hm]
    rw [hs1, hm] at hst
    obtain ⟨s1, s2, s3, s4⟩ := hu.stp hc hm
    have hit : itT c h r (c.length + 1 - n) u = ((itT c h r (c.length + 1 - (n + 1)) (stpT u c h r)).1, (itT c h r (c.length + 1 - (n + 1)) (stpT u c h r)).2 + 1) := by
      have : c.length + 1 - n = (c.length + 1 - (n + 1)) + 1 := by omega
      rw [this, itT, if_pos hk]
    rw [hit] at e1 e2
    have hwn : IntKind.i64.wrap ((n : Int) + 1) = ((n + 1 : Nat) : Int) := by rw [wrap_in (by omega)]; omega
    generalize stpT u c h r = v at *
    unfold dT tyC at hst
    simp (maxSteps := 2000000) -implicitDefEqProofs only [zz, zE, evop, ev, ofVal, tget, tput, ok, V.isUndef, intBin, Ch.on, calleeOf, withArgs, told, hget, structAt, Blk.width, ↓reduceIte, reduceCtorEq, Nat.reduceLT, Nat.reduceEqDiff, Nat.reduceAdd, Nat.reduceLeDiff, nilTest, bT, bZ, ek]
    refine acall_ice (by first | rfl | (simp only [xports, xport, hget]; rfl)) (hst) ?_
    try simp (maxSteps := 2000000) -implicitDefEqProofs only [zz, zE, evop, ev, ofVal, tget, tput, ok, V.isUndef, intBin, Ch.on, told, tids, tidss, hget, hput, freeze, V.cells, V.one, splice, ↓reduceIte, Nat.reduceLT, Nat.reduceEqDiff, Nat.reduceAdd, Nat.reduceLeDiff, nilTest]
    simp (maxSteps := 2000000) -implicitDefEqProofs only [hwn]
    refine ⟨(v, n + 1), ⟨by simp only; omega, e1, by simp only; rw [e2]; simp only; omega, s1, by simp only; omega, fun g => ?_⟩, by simp only; omega, ?_⟩
    · have := s3 g
      simp only; omega
    · exact Weak.trims 3 rfl (by simp [tget, V.lower]) (by simp [bT, bZ, Blk.lower, lowerL, V.lower])
end Go.Proofs.YtjhfpabldidlgaaGreat.AM

/- The fixed answer of layer 11. -/
set_option linter.all false
set_option maxRecDepth 100000
set_option maxHeartbeats 8000000
namespace Go.Proofs.YtjhfpabldidlgaaGreat.AM
open Go Go.RowKit

def k11 : List St := [⟨7, 3, 1, []⟩, ⟨3, 1, 0, [(1, 1)]⟩, ⟨1, 2, 0, []⟩, ⟨5, 0, 0, []⟩, ⟨3, 0, 0, [(1, 1)]⟩]
def h11 : List (Bool × Int) := [(true, 5), (true, 0)]
def u11 : Ty := ⟨3, 7, 5, [0, 0, 0, 0, 0, 0, 0, 0], [2], [(0, 7, 5)], ([(0, 1)], []), [], 1, 0⟩
def v11 : Ty := ⟨3, 7, 2, [0, 0, 0, 0, 0, 0, 0, 0], [1], [], ([(1, 1)], [0]), [⟨4, 5, 0, [0, 0, 0, 0, 0, 0, 0, 0]⟩], 5, 0⟩

theorem k11_code : codeC k11 = 0 := by
  have h1 : (k11.any fun s => !mayS s) = false := by decide
  have h2 : wellW k11 = (1, true) := by simp [k11, wellW]; decide
  unfold codeC
  rw [h1, h2]
  decide
theorem k11_ok : CodeOk k11 := CodeOk.of k11_code
theorem k11_t : ∀ s ∈ k11, s.t.length ≤ 1000000 := by decide
theorem n11_ok : InvS k11 (newT 3 7) := by
  have h := (setT_ok (new_ok k11_ok 3 7) rfl).1
  have e : setT (k11.length : Int) (newT 3 7) = newT 3 7 := by decide
  rwa [e] at h
theorem n11_run (r : List (Int × Int)) (hw : okW h11 r = true) (u : Ty) (n : Nat) (h : runT (newT 3 7) k11 h11 r = (u, n)) : CSpec Tryz.prog 51 [dT (newT 3 7), .vec (k11.map dS), .vec (h11.map dC), .vec (r.map dW)] (.tuple [dT u, .int .i64 n, .int .i64 0]) ∧ InvS k11 u := by
  have hr := c_attempt_Run k11 (newT 3 7) h11 r k11_ok n11_ok (by decide) k11_t
  rw [if_neg (by rw [hw]; simp), h] at hr
  have hi := (runT_ok k11_ok hw n11_ok).1
  rw [h] at hi
  exact ⟨hr, hi⟩

theorem w11_1 : CSpec Tryz.prog 15 [.vec (k11.map dS), .int .i64 3, .int .i64 7] (.tuple [dT (newT 3 7), .int .i64 0]) := by
  have h := c_attempt_Begin k11 3 7 (by decide) k11_t
  have hB : mayB k11 3 7 = true := by simp [mayB, k11_code, tickR]
  have e : begT k11 3 7 = newT 3 7 := by
    unfold begT
    rw [if_pos hB]
    decide
  rw [e, if_pos hB] at h
  exact h
theorem w11_2 : CSpec Tryz.prog 51 [dT (newT 3 7), .vec (k11.map dS), .vec (h11.map dC), .vec ([(7, 0)].map dW)] (.tuple [dT u11, .int .i64 5, .int .i64 0]) ∧ InvS k11 u11 := n11_run [(7, 0)] (by decide) u11 5 (by decide)
theorem w11_3 : CSpec Tryz.prog 51 [dT (newT 3 7), .vec (k11.map dS), .vec (h11.map dC), .vec ([(8, 0)].map dW)] (.tuple [dT v11, .int .i64 3, .int .i64 0]) ∧ InvS k11 v11 := n11_run [(8, 0)] (by decide) v11 3 (by decide)
theorem w11_4 : CSpec Tryz.prog 51 [dT (newT 3 7), .vec (k11.map dS), .vec (h11.map dC), .vec ([(0, 3)].map dW)] (.tuple [dT v11, .int .i64 3, .int .i64 0]) ∧ InvS k11 v11 := n11_run [(0, 3)] (by decide) v11 3 (by decide)
theorem w11_5 : CSpec Tryz.prog 20 [dT u11, .vec (k11.map dS), .vec (h11.map dC), .vec ([(0, 0)].map dW)] (.tuple [dT u11, .int .i64 1]) := by
  have h := c_attempt_Step k11 u11 h11 [(0, 0)] k11_ok w11_2.2 (by decide) k11_t
  have hm : mayT u11 h11 [(0, 0)] = false := by decide
  have e : stepT u11 k11 h11 [(0, 0)] = u11 := by simp [stepT, hm]
  rw [e, hm] at h
  exact h
theorem w11_6 : CSpec Tryz.prog 24 [dT u11] (dO ⟨1, 0, [0, 0, 0, 0, 0, 0, 0, 0], [2], [0], [(0, 1)]⟩) := by
  have h := c_attempt_Out u11 (by decide) (by decide) (by decide)
  have e : outT u11 = ⟨1, 0, [0, 0, 0, 0, 0, 0, 0, 0], [2], srtC [(0, 7, 5)], lastW [(0, 1)]⟩ := rfl
  have e2 : srtC [(0, 7, 5)] = [0] := by simp [srtC, cellsL, srtI]
  have e3 : lastW [(0, 1)] = [(0, 1)] := by decide
  rw [e, e2, e3] at h
  exact h

theorem c_awake11 : CSpec Tryz.prog 14 [] (.bool true) := by
  have q1 := w11_1
  have q2 := w11_2.1
  have q3 := w11_3.1
  have q4 := w11_4.1
  have q5 := w11_5
  have q6 := w11_6
  simp only [dT, tyC, newT, zeroT, u11, v11, dO, oyC, List.map_cons, List.map_nil, dI, dRd, dW, dFr] at q1 q2 q3 q4 q5 q6
  refine CSpec.of_snd envOf_ok hmix Tryz.func14 rfl (fun args w => Tryz.call14 args w) (by simp [Tryz.f14]) ?_
  simp only [Tryz.f14]
  refine Snd.upto envOf_ok hmix 2 _ ?_
  simp only [hdN, tlN]
  simp (maxSteps := 2000000) -implicitDefEqProofs only [zz, zE, evop, ev, ofVal, tget, tput, ok, V.isUndef, initT, Ch.on, hput, V.cells, D.cells, V.one, V.clo, clos, V.toD, sliceOf, partsD, partsV, splice, ↓reduceIte, Nat.reduceLT, Nat.reduceAdd, Nat.reduceMul, Nat.reduceLeDiff, cutK_normal]
  refine Snd.weak (T' := [(1, .d (.vec [dW (1, 1)]))]) (H' := []) (Weak.close [0] 0 (by simp) rfl (by simp [tget, sealF, hget, V.lower, dW]) (by simp)) ?_
  refine Snd.of_awp envOf_ok hmix ?_
  simp (maxSteps := 2000000) -implicitDefEqProofs only [zz, zE, evop, ev, ofVal, tget, tput, ok, V.isUndef, Ch.on, calleeOf, withArgs, hput, V.cells, D.cells, V.one, V.clo, clos, V.toD, sliceOf, partsD, partsV, splice, ↓reduceIte, Nat.reduceLT, Nat.reduceEqDiff, Nat.reduceAdd, Nat.reduceMul, Nat.reduceLeDiff, dW]
  refine acall_ice (by first | rfl | (simp only [xports, xport, hget]; rfl)) (q1) ?_
  try simp (maxSteps := 2000000) -implicitDefEqProofs only [zz, zE, evop, ev, ofVal, tget, tput, ok, V.isUndef, Ch.on, calleeOf, withArgs, tids, tidss, hget, hput, Blk.ice, freeze, V.cells, D.cells, V.one, V.clo, clos, V.toD, sliceOf, partsD, partsV, splice, ↓reduceIte, Nat.reduceLT, Nat.reduceEqDiff, Nat.reduceAdd, Nat.reduceMul, Nat.reduceLeDiff]
  refine acall_ice (by first | rfl | (simp only [xports, xport, hget]; rfl)) (q2) ?_
  try simp (maxSteps := 2000000) -implicitDefEqProofs only [zz, zE, evop, ev, ofVal, tget, tput, ok, V.isUndef, Ch.on, calleeOf, withArgs, tids, tidss, hget, hput, Blk.ice, freeze, V.cells, D.cells, V.one, V.clo, clos, V.toD, sliceOf, partsD, partsV, splice, ↓reduceIte, Nat.reduceLT, Nat.reduceEqDiff, Nat.reduceAdd, Nat.reduceMul, Nat.reduceLeDiff]
  refine acall_ice (by first | rfl | (simp only [xports, xport, hget]; rfl)) (q3) ?_
  try simp (maxSteps := 2000000) -implicitDefEqProofs only [zz, zE, evop, ev, ofVal, tget, tput, ok, V.isUndef, Ch.on, calleeOf, withArgs, tids, tidss, hget, hput, Blk.ice, freeze, V.cells, D.cells, V.one, V.clo, clos, V.toD, sliceOf, partsD, partsV, splice, ↓reduceIte, Nat.reduceLT, Nat.reduceEqDiff, Nat.reduceAdd, Nat.reduceMul, Nat.reduceLeDiff]
  refine acall_ice (by first | rfl | (simp only [xports, xport, hget]; rfl)) (q4) ?_
  try simp (maxSteps := 2000000) -implicitDefEqProofs only [zz, zE, evop, ev, tget, tput, ok, V.isUndef, Ch.on, calleeOf, withArgs, tids, tidss, hget, hput, Blk.ice, freeze, V.cells, D.cells, V.one, V.clo, clos, V.toD, sliceOf, partsD, partsV, splice, ↓reduceIte, Nat.reduceLT, Nat.reduceEqDiff, Nat.reduceAdd, Nat.reduceMul, Nat.reduceLeDiff]
  refine acall_ice (by first | rfl | (simp only [xports, xport, hget]; rfl)) (q5) ?_
  try simp (maxSteps := 2000000) -implicitDefEqProofs only [zz, zE, evop, ev, tget, tput, ok, V.isUndef, Ch.on, calleeOf, withArgs, tids, tidss, hget, hput, Blk.ice, freeze, V.cells, V.one, splice, ↓reduceIte, Nat.reduceLT, Nat.reduceEqDiff, Nat.reduceAdd, Nat.reduceLeDiff]
  refine acall_ice (by first | rfl | (simp only [xports, xport, hget]; rfl)) (q6) ?_
  try simp (maxSteps := 2000000) -implicitDefEqProofs only [zz, zE, evop, ev, ofVal, tget, tput, ok, V.isUndef, intBin, guardOf, Ch.on, xport, tids, tidss, hget, hput, freeze, V.cells, D.cells, V.one, loadD, structAt, sliceOf, Blk.width, lenOf, splice, resOf, resV, resVs, ↓reduceIte, reduceCtorEq, Nat.reduceLT, Nat.reduceEqDiff, Nat.reduceAdd, Nat.reduceLeDiff, nilTest]
  simp
end Go.Proofs.YtjhfpabldidlgaaGreat.AM
