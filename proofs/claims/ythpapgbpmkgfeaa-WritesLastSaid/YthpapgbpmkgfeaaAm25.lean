/- Functions on a heap: their contract out of their code; calls of them; slots and blocks forgotten. -/
import Derived.Test.YthpapgbpmkgfeaaAm24
set_option linter.all false
namespace Go.Proofs.Ythpapgbpmkgfeaa.AM
open Go Go.RowKit

section
variable {P : Program} {E : Env} {n m : Nat} {φ φ' : Nat → Option Loc} {S S' : Nat → Prop} {H H' : Heap} {w : World} {T T' : Tmps} {ρ : Nat → Nat}

/-- LESS IS KNOWN, by other numbers; below m they stay. -/
theorem Weak.renM (ρ : Nat → Nat) (hT : ∀ t, Ren ρ H' (tget T' t) (tget T t)) (hB : ∀ i, hget H' i ≠ .unborn → RenB ρ H H' i) (hU : ∀ i, hget H' i = .unborn → hget H (ρ i) = .unborn)
    (hinj : ∀ i j, hget H' i ≠ .unborn → hget H' j ≠ .unborn → ρ i = ρ j → hget H (ρ i) ≠ .unborn → i = j)
    (hm : ∀ i, i < m → ρ i = i ∧ (hget H i ≠ .unborn → hget H' i ≠ .unborn)) : Weak m T H T' H' := by
  intro C φ S w a hH hT0
  refine ⟨φren φ ρ H', S, Weak.ren_heap hH hB hU hinj, fun t => RV.renR hB hU (hT t) (hT0 t), ⟨.refl _ _, Nat.le_refl _, fun id h hu => ?_⟩⟩
  obtain ⟨h1, h2⟩ := hm id h
  rcases hB id (h2 hu) with ⟨fz, cells, cells', g1, g2, g3⟩ | ⟨fz, sz, els, g1, g2⟩ | ⟨sz, g1, g2⟩ | g1
  · rw [h1] at g2
    right
    exact ⟨by rw [g1, g2]; simp [SameShape, g3.length], by simp [φren, g1, h1]⟩
  · rw [h1] at g2
    right
    exact ⟨by rw [g1, g2]; simp [SameShape], by simp [φren, g1, h1]⟩
  · rw [h1] at g2; exact absurd g2 hu
  · exact .inl g1

/-- SLOTS FORGOTTEN, AND THE LAST BLOCKS. -/
theorem Weak.trimM (n : Nat) (hmn : m ≤ n) (hT : ∀ q ∈ T', tget T q.1 = q.2 ∧ V.lower n q.2 = true) (hB : ∀ b ∈ H.take n, Blk.lower n b = true) : Weak m T H T' (H.take n) := by
  let ρ : Nat → Nat := fun i => if i < n then i else i + H.length
  have hρ : ∀ i, i < n → ρ i = i := fun i h => by simp [ρ, h]
  have hmem : ∀ i, i < n → hget H i ≠ .unborn → hget H i ∈ H.take n := fun i h hu => by
    have hlt : i < H.length := Classical.byContradiction fun hn => hu (hget_length H i (by omega))
    have : hget H i = H[i] := by rw [hget_getElem, List.getElem?_eq_getElem hlt]; rfl
    rw [this]
    exact List.mem_take_iff_getElem.2 ⟨i, by omega, rfl⟩
  refine Weak.renM ρ (fun t => ?_) (fun i hu => ?_) (fun i hu => ?_) (fun i j hi hj he hu => ?_) (fun i hi => ⟨hρ i (by omega), fun hu => by rw [hget_take, if_pos (by omega)]; exact hu⟩)
  · rcases tget_mem (T' := T') (t := t) with h | ⟨q, h1, rfl, h3⟩
    · rw [h]; exact .undef _
    · obtain ⟨h4, h5⟩ := hT q h1
      rw [h3, h4]
      have := Ren.same (ρ := ρ) (H' := H.take n) q.2
      rwa [V.ren_below hρ q.2 h5] at this
  · rw [hget_take] at hu
    by_cases hi : i < n
    · rw [if_pos hi] at hu
      have hb := hB _ (hmem i hi hu)
      have hg : hget (H.take n) i = hget H i := by rw [hget_take, if_pos hi]
      cases hx : hget H i with
      | unborn => exact absurd hx hu
      | dead => exact .dead (by rw [hg, hx])
      | box fz cells => rw [hx] at hb; exact .box fz cells cells (by rw [hg, hx]) (by rw [hρ i hi, hx]) (RenL.refl_below hρ cells hb)
      | dat fz sz els => exact .dat fz sz els (by rw [hg, hx]) (by rw [hρ i hi, hx])
    · rw [if_neg hi] at hu; exact absurd rfl hu
  · rw [hget_take] at hu
    by_cases hi : i < n
    · rw [if_pos hi] at hu; rw [hρ i hi]; exact hu
    · simp only [ρ]; rw [if_neg hi]; exact hget_length H _ (by omega)
  · rw [hget_take] at hi hj
    have h1 : i < n := Classical.byContradiction fun h => by rw [if_neg h] at hi; exact hi rfl
    have h2 : j < n := Classical.byContradiction fun h => by rw [if_neg h] at hj; exact hj rfl
    rwa [hρ i h1, hρ j h2] at he

theorem Weak.trimsM (n : Nat) (hmn : m ≤ n) (hH : H.take n = H') (hT : ∀ q ∈ T', tget T q.1 = q.2 ∧ V.lower n q.2 = true) (hB : ∀ b ∈ H', Blk.lower n b = true) : Weak m T H T' H' := by
  subst hH; exact Weak.trimM n hmn hT hB

/-- BLOCKS PICKED, numbered anew; the first m stay. -/
theorem Weak.pickM (l : List Nat) (hnd : l.Nodup) (hlen : l.length = H'.length) (hT : ∀ q ∈ T', Ren (pickρ l (H.length + H'.length)) H' q.2 (tget T q.1)) (hB : ∀ i, i < H'.length → RenB (pickρ l (H.length + H'.length)) H H' i)
    (hml : m ≤ l.length) (hm : ∀ i, i < m → l[i]? = some i) : Weak m T H T' H' := by
  have hborn : ∀ i, i < H'.length → hget H' i ≠ .unborn := fun i hi e => by
    rcases hB i hi with ⟨_, _, _, h, _⟩ | ⟨_, _, _, h, _⟩ | ⟨_, h, _⟩ | h <;> rw [e] at h <;> cases h
  have hin : ∀ i, i < H'.length → ∃ x, l[i]? = some x ∧ pickρ l (H.length + H'.length) i = x := fun i hi => by
    have : i < l.length := by omega
    exact ⟨l[i], List.getElem?_eq_getElem this, by simp [pickρ, List.getElem?_eq_getElem this]⟩
  have hno : ∀ i, hget H' i ≠ .unborn → i < H'.length := fun i h => Classical.byContradiction fun hn => h (hget_length H' i (by omega))
  refine Weak.renM (pickρ l (H.length + H'.length)) (fun t => ?_) (fun i hu => hB i (hno i hu)) (fun i hu => ?_) (fun i j hi hj he hu => ?_) (fun i hi => ⟨by simp [pickρ, hm i hi], fun _ => hborn i (by omega)⟩)
  · rcases tget_mem (T' := T') (t := t) with h | ⟨q, h1, rfl, h3⟩
    · rw [h]; exact .undef _
    · rw [h3]; exact hT q h1
  · have : H'.length ≤ i := Classical.byContradiction fun hn => hborn i (by omega) hu
    have h2 : pickρ l (H.length + H'.length) i = i + (H.length + H'.length) := by simp [pickρ, List.getElem?_eq_none (by omega : l.length ≤ i)]
    rw [h2]; exact hget_length H _ (by omega)
  · obtain ⟨x, h1, h2⟩ := hin i (hno i hi)
    obtain ⟨y, h3, h4⟩ := hin j (hno j hj)
    rw [h2, h4] at he
    subst he
    have a1 := (List.getElem?_eq_some_iff.1 h1)
    have a2 := (List.getElem?_eq_some_iff.1 h3)
    exact (List.getElem_inj hnd).1 (a1.2.trans a2.2.symm)

def initV : Nat → List V → Tmps
  | _, [] => []
  | i, v :: r => (i, v) :: initV (i + 1) r

theorem initV_get : ∀ (vs : List V) (i t : Nat), tget (initV i vs) t = if i ≤ t then (match vs[t - i]? with | some v => v | none => .d .undef) else .d .undef
  | [], i, t => by simp [initV, tget]
  | v :: r, i, t => by
    simp only [initV, tget]
    by_cases h : t = i
    · subst h; simp
    · rw [if_neg h, initV_get r (i + 1) t]
      by_cases h1 : i ≤ t
      · rw [if_pos h1, if_pos (by omega)]
        have : t - i = (t - (i + 1)) + 1 := by omega
        rw [this]; simp
      · rw [if_neg h1, if_neg (by omega)]

/-- The function's end: on a heap. -/
def FinR (E : Env) (m : Nat) (rs : List ResultVar) (r : V) (H1 : Heap) : Ex → Tmps → Heap → Prop
  | .exit _, _, _ => False
  | _, T, H => ∃ v, resOf E T H rs = some v ∧ Weak m [(0, v)] H [(0, r)] H1

/-- A FUNCTION's CONTRACT ON A HEAP. -/
theorem RSpec.of_awp {f : Nat} {fn : Func} {body : Code} {vs : List V} {H0 H1 : Heap} {r : V} (hE : EOk P E) (hmix : P.follows .mixedOrders = true) (hf : P.funcs[f]? = some fn) (hb : fn.body = some body) (hcall : Callable P f) (hn : vs.length ≤ fn.ntmps)
    (h : awp P E fn.ntmps H0.length body (initV 0 vs) H0 (FinR E H0.length fn.results.toList r H1)) : RSpec P f vs H0 r H1 := by
  refine ⟨hcall, fun C φ S w cs hH hv => ?_⟩
  have hlen := hv.len
  have hsz : (cs.toArray ++ Array.replicate (fn.ntmps - cs.toArray.size) undef).size = fn.ntmps := by simp; omega
  have hst : Stands C fn.ntmps (initV 0 vs) H0 φ S { tmps := cs.toArray ++ Array.replicate (fn.ntmps - cs.toArray.size) undef, defers := [] } w := by
    refine ⟨hH, fun t => ?_, hsz, rfl⟩
    rw [initV_get]
    simp only [Nat.zero_le, if_true, Nat.sub_zero]
    by_cases ht : t < vs.length
    · have hc : t < cs.length := by omega
      rw [List.getElem?_eq_getElem ht]
      have : (cs.toArray ++ Array.replicate (fn.ntmps - cs.toArray.size) undef).getD t undef = cs[t] := by
        simp [Array.getElem?_append, hc]
      rw [this]
      exact hv.at_ t _ _ (List.getElem?_eq_getElem ht) (List.getElem?_eq_getElem hc)
    · rw [List.getElem?_eq_none (by omega)]
      exact .d _ _ (.undef _)
  refine calls_of_wp hf hb (wp_mono (awp_sound (m := H0.length) hE hmix body hst h) ?_)
  rintro e a' w' ⟨e', T', H', φ', S', hq, rfl, hst', hs', hk'⟩
  have fin : (∃ v, resOf E T' H' fn.results.toList = some v ∧ Weak H0.length [(0, v)] H' [(0, r)] H1) → a'.defers = [] ∧ ∃ v, (results fn a'.tmps).run P w' = .ok v w' ∧
      ∃ c φ1 S1, Ending.returned v = .returned c ∧ RV φ1 S1 H1 w' r c ∧ HRel C φ1 S1 H1 w' ∧ Step φ S H0 w φ1 S1 H1 w' ∧ Kp C w w' := by
    rintro ⟨v, hv, hx⟩
    obtain ⟨c, hrun, hc⟩ := resOf_sound hE hst' hv
    obtain ⟨φ1, S1, g1, g2, g3⟩ := hx _ φ' S' w' { tmps := #[c], defers := [] } hst'.heap (fun t => by
      simp only [tget]
      split
      · rename_i e; subst e; exact hc
      · exact .d _ _ (.undef _))
    have hall := hs'.trans g3
    refine ⟨hst'.defers, c, hrun, c, φ1, S1, rfl, ?_, g1, ⟨hall.keepS, fun id hu => hall.keepH id (Classical.byContradiction fun hn => hu (hget_length H0 id (by omega))) hu⟩, hk'⟩
    have := g2 0
    simpa [tget] using this
  cases e' with
  | normal => exact fin hq
  | ret => exact fin hq
  | exit id => exact hq.elim

def afinR (E : Env) (m : Nat) (rs : List ResultVar) (r : V) (H1 : Heap) (T : Tmps) (H : Heap) : Prop := ∃ v, resOf E T H rs = some v ∧ Weak m [(0, v)] H [(0, r)] H1
theorem z3a {rs r H1} : FinR E m rs r H1 .ret T H = afinR E m rs r H1 T H := rfl
theorem z3b {rs r H1} : FinR E m rs r H1 .normal T H = afinR E m rs r H1 T H := rfl
theorem z3c {rs r H1} : afinR E m rs r H1 T H = (match resOf E T H rs with | some v => Weak m [(0, v)] H [(0, r)] H1 | none => False) := by
  unfold afinR
  cases resOf E T H rs <;> simp

/-- A call that writes what is the caller's own. -/
theorem acall_ref {f : Nat} {vs vs0 : List V} {H0 H1 : Heap} {r : V} {dst : Option Nat} {K : Tmps → Heap → Prop} (l : List Nat) (h : RSpec P f vs0 H0 r H1) (hvs : renL (frρ l H.length) vs0 = vs) (hnd : l.Nodup) (hlen : l.length = H0.length) (hlen1 : H0.length ≤ H1.length) (hlt : ∀ i ∈ l, i < H.length)
    (hB : ∀ j, j < H0.length → hget H0 j ≠ .unborn ∧ hget H (frρ l H.length j) = (hget H0 j).ren (frρ l H.length))
    (hK : K (tput n T dst (r.ren (frρ l H.length))) (frameH H l H1)) : acall P n f vs dst T H K := by
  subst hvs
  exact ⟨_, _, RSpec.frame h l hnd hlen hlen1 hlt hB, hK⟩

end
-- Short names for what the walks cite.
def z3x := @List.getElem?_cons_succ
def z3y := @List.getElem?_cons_zero
def z3z := @List.getElem?_nil
def z40 := @true_and
def z41 := @and_true
def z42 := @Nat.sub_self
def z43 := @Nat.add_zero
def z44 := @Nat.zero_add
def z45 := @Nat.sub_zero
def z46 := @Bool.false_eq_true
def z47 := @Bool.not_true
def z48 := @Bool.not_false
def z49 := @Bool.true_eq_false
def z4a := @List.length_cons
def z4b := @List.length_nil
def z4c := @List.map_cons
def z4d := @List.map_nil
def z4e := @List.cons_append
def z4f := @List.nil_append
def z4g := @List.append_nil
def z4h := @List.all_cons
def z4i := @List.all_nil
def z4j := @Bool.and_true
def z4k := @Bool.true_and
def z4l := @Bool.and_false
def z4m := @Bool.false_and
def z4n := @Bool.and_self
def z4o := @decide_true
def z4p := @decide_false
def z4q := @decide_eq_true_eq
def z4r := @List.drop_zero
def z4s := @List.drop_succ_cons
def z4t := @List.take_succ_cons
def z4u := @List.take_zero
def z4v := @List.take_nil
def z4w := @List.drop_nil
def z4x := @Option.isSome_some
def z4y := @List.isEmpty_cons
def z4z := @List.isEmpty_nil
def z50 := @beq_self_eq_true
def z51 := @bne_self_eq_false
def z52 := @List.toList_toArray
def z53 := @List.length_map
def z54 := @Int.toNat_natCast
def z55 := @Int.toNat_zero
def z56 := @Int.ofNat_eq_natCast
def z57 := @Int.natCast_zero
def z58 := @true_implies
def z59 := @Nat.lt_irrefl
def z5a := @ge_iff_le
def z5b := @gt_iff_lt
def z5c := @false_implies
def z5d := @forall_const
def z5e := @List.size_toArray
def z5f := @Array.size_empty
def z5g := @Option.getD_some
def z5h := @Option.getD_none
def z5i := @List.headD_cons
def z5j := @List.append_eq

end Go.Proofs.Ythpapgbpmkgfeaa.AM
