/- A region that draws its order: whatever order is drawn (the end of the proof). -/
import Derived.Test.YthpapgbpmkgfeaaAm18
set_option linter.all false
namespace Go.Proofs.Ythpapgbpmkgfeaa.AM
open Go Go.RowKit

section
variable {P : Program} {E : Env} {n m : Nat} {all : Array Oper} {plan : List PE} {s L0 : Nat} {Q : Tmps → Heap → Prop}

/-- Where a run of operations that may come in any order ends. -/
def Stop (P : Program) (E : Env) (n : Nat) (all : Array Oper) (plan : List PE) (Q : Tmps → Heap → Prop) (e : Nat) (T0 : Tmps) (H0 : Heap) : Prop :=
  (e = all.size ∧ ∃ T H, (∀ t, tget T t = tget T0 t) ∧ (∀ id, hget H id = hget H0 id) ∧ Q T H) ∨
  (∃ o pe, all[e]? = some o ∧ plan[e]? = some pe ∧ pe.bar = true ∧ o.guard = none ∧ ∃ T H, (∀ t, tget T t = tget T0 t) ∧ (∀ id, hget H id = hget H0 id) ∧
    bstep P E n o pe.ms T H fun T' H' => drun P E n all.toList (e + 1) H'.length (e + 1) (all.toList.drop (e + 1)) (plan.drop (e + 1)) T' H' Q)

/-- What is told of one of them. -/
def OpFact (P : Program) (n m : Nat) (all : Array Oper) (s L0 : Nat) (j : Nat) (pe : PE) (T : Tmps) (H : Heap) (r : V × Blk) : Prop :=
  ∀ (T' : Tmps) (H' : Heap) (C : Ctx) (φ : Nat → Option Loc) (S : Nat → Prop) (a : Act) (w : World) (Q' : Exit → Act → World → Prop), Stands C n T' H' φ S a w → (∀ t, t ∉ pe.ms → tget T' t = tget T t) →
    (∀ id, hget (maskH s L0 pe.mi H) id = .unborn ∨ hget H' id = hget (maskH s L0 pe.mi H) id) → hget H' (L0 + (j - s)) = .unborn →
    wpOp P all Q' j (Done C n m φ S H' w (tput n T' (dstAt all j) r.1) (hput H' (L0 + (j - s)) r.2)) a w

/-- What is told of one that lags: it reads slots alone. -/
def LagFact (P : Program) (n m : Nat) (all : Array Oper) (j : Nat) (pe : PE) (T : Tmps) (v : V) : Prop :=
  ∀ (T' : Tmps) (H' : Heap) (C : Ctx) (φ : Nat → Option Loc) (S : Nat → Prop) (a : Act) (w : World) (Q' : Exit → Act → World → Prop), Stands C n T' H' φ S a w → (∀ t, t ∉ pe.ms → tget T' t = tget T t) →
    wpOp P all Q' j (Done C n m φ S H' w (tput n T' (dstAt all j) v) H') a w

theorem maskH_congr {H H0 : Heap} {mi : List Nat} (h : ∀ id, hget H id = hget H0 id) (id : Nat) : hget (maskH s L0 mi H) id = hget (maskH s L0 mi H0) id := by
  rw [maskH_get, maskH_get, h]

theorem extract (hE : EOk P E) (hp : planOk all.toList plan = true) : ∀ (rest : List Oper) (i : Nat) (T : Tmps) (H : Heap) (T0 : Tmps) (H0 : Heap), rest = all.toList.drop i → i + rest.length = all.size → s ≤ i → (∀ t, tget T t = tget T0 t) → (∀ id, hget H id = hget H0 id) →
    drun P E n all.toList s L0 i rest (plan.drop i) T H Q →
    ∃ (e : Nat) (R : Nat → V × Blk), i ≤ e ∧ e ≤ all.size ∧ (∀ (j : Nat) (pe : PE), i ≤ j → j < e → plan[j]? = some pe → pe.bar = false ∧ OpFact P n m all s L0 j pe (gT n all R (fun _ => true) (j - i) i T0) (gH s L0 R (fun _ => true) (j - i) i H0) (R j) ∧ (pe.lag = true → (R j).2 = .dead ∧ LagFact P n m all j pe (gT n all R (fun _ => true) (j - i) i T0) (R j).1)) ∧
      Stop P E n all plan Q e (gT n all R (fun _ => true) (e - i) i T0) (gH s L0 R (fun _ => true) (e - i) i H0)
  | [], i, T, H, T0, H0, hr, hl, hs, hT, hH, h => by
    refine ⟨i, fun _ => (.d .undef, .dead), Nat.le_refl _, by simp at hl; omega, fun j pe h1 h2 => by omega, .inl ⟨by simpa using hl, T, H, ?_, ?_, ?_⟩⟩
    · simpa [gT] using hT
    · simpa [gH] using hH
    · cases hp : plan.drop i <;> rw [hp] at h <;> exact h
  | o :: rest, i, T, H, T0, H0, hr, hl, hs, hT, hH, h => by
    have ho : all[i]? = some o := by
      have : (all.toList.drop i)[0]? = some o := by rw [← hr]; rfl
      simpa using this
    have hrest : rest = all.toList.drop (i + 1) := by
      have := congrArg List.tail hr
      simpa [List.tail_drop] using this
    cases hpl : plan.drop i with
    | nil => rw [hpl] at h; exact h.elim
    | cons pe pr =>
      have hpe : plan[i]? = some pe := by
        have : (plan.drop i)[0]? = some pe := by rw [hpl]; rfl
        simpa using this
      have hpr : pr = plan.drop (i + 1) := by
        have := congrArg List.tail hpl
        simpa [List.tail_drop] using this.symm
      rw [hpl] at h
      simp only [drun] at h
      split at h
      · -- a barrier
        rename_i hb
        refine ⟨i, fun _ => (.d .undef, .dead), Nat.le_refl _, by simp at hl; omega, fun j pe h1 h2 => by omega, .inr ⟨o, pe, ho, hpe, hb, h.1, T, H, ?_, ?_, ?_⟩⟩
        · simpa [gT] using hT
        · simpa [gH] using hH
        · have := h.2
          rw [hrest, hpr] at this
          exact this
      · rename_i hb
        have hb' : pe.bar = false := by simpa using hb
        -- what follows, once one of them is told
        have go : ∀ (r : V × Blk) (T1 : Tmps) (H1 : Heap), OpFact P n m all s L0 i pe T0 H0 r → (pe.lag = true → r.2 = .dead ∧ LagFact P n m all i pe T0 r.1) → (∀ t, tget T1 t = tget (tput n T0 (dstAt all i) r.1) t) → (∀ id, hget H1 id = hget (hput H0 (L0 + (i - s)) r.2) id) →
            drun P E n all.toList s L0 (i + 1) rest (plan.drop (i + 1)) T1 H1 Q →
            ∃ (e : Nat) (R : Nat → V × Blk), i ≤ e ∧ e ≤ all.size ∧ (∀ (j : Nat) (pe : PE), i ≤ j → j < e → plan[j]? = some pe → pe.bar = false ∧ OpFact P n m all s L0 j pe (gT n all R (fun _ => true) (j - i) i T0) (gH s L0 R (fun _ => true) (j - i) i H0) (R j) ∧ (pe.lag = true → (R j).2 = .dead ∧ LagFact P n m all j pe (gT n all R (fun _ => true) (j - i) i T0) (R j).1)) ∧
              Stop P E n all plan Q e (gT n all R (fun _ => true) (e - i) i T0) (gH s L0 R (fun _ => true) (e - i) i H0) := by
          intro r T1 H1 hf hlf hT1 hH1 h1
          obtain ⟨e, R, g1, g2, g3, g4⟩ := extract hE hp rest (i + 1) T1 H1 (tput n T0 (dstAt all i) r.1) (hput H0 (L0 + (i - s)) r.2) hrest (by simp at hl; omega) (by omega) hT1 hH1 h1
          let R' : Nat → V × Blk := fun j => if j = i then r else R j
          have hR'i : R' i = r := by simp [R']
          have eT : ∀ k, gT n all R' (fun _ => true) (k + 1) i T0 = gT n all R (fun _ => true) k (i + 1) (tput n T0 (dstAt all i) r.1) := fun k => by
            simp only [gT, if_true, hR'i]
            exact gT_congrR k (i + 1) _ (fun j h1 h2 => by simp only [R']; rw [if_neg (by omega)])
          have eH : ∀ k, gH s L0 R' (fun _ => true) (k + 1) i H0 = gH s L0 R (fun _ => true) k (i + 1) (hput H0 (L0 + (i - s)) r.2) := fun k => by
            simp only [gH, if_true, hR'i]
            exact gH_congrR k (i + 1) _ (fun j h1 h2 => by simp only [R']; rw [if_neg (by omega)])
          refine ⟨e, R', by omega, g2, fun j pj hj1 hj2 hpj => ?_, ?_⟩
          · by_cases e0 : j = i
            · subst e0
              rw [hpe] at hpj; cases hpj
              refine ⟨hb', ?_⟩
              rw [hR'i, Nat.sub_self]
              exact ⟨hf, hlf⟩
            · obtain ⟨k, hk⟩ : ∃ k, j - i = k + 1 := ⟨j - i - 1, by omega⟩
              have hk' : j - (i + 1) = k := by omega
              obtain ⟨q1, q2⟩ := g3 j pj (by omega) hj2 hpj
              refine ⟨q1, ?_⟩
              rw [hk, eT, eH]
              rw [hk'] at q2
              have : R' j = R j := by simp only [R']; rw [if_neg e0]
              rw [this]; exact q2
          · obtain ⟨k, hk⟩ : ∃ k, e - i = k + 1 := ⟨e - i - 1, by omega⟩
            have hk' : e - (i + 1) = k := by omega
            rw [hk, eT, eH]
            rw [hk'] at g4
            exact g4
        have hdst : dstAt all i = o.dst := by simp [dstAt, ho]
        -- how an operation that is told is met
        have fact : ∀ {v : V} {b : Blk} {T2 : Tmps}, (∀ t, tget T2 t = tget T t) → (∀ {T' : Tmps} {H' : Heap} {C : Ctx} {φ : Nat → Option Loc} {S : Nat → Prop} {a : Act} {w : World} (Q' : Exit → Act → World → Prop), Stands C n T' H' φ S a w → More (maskT pe.ms T2) (maskH s L0 pe.mi H) T' H' → hget H' (L0 + (i - s)) = .unborn →
            o.wp P a w (Done C n m φ S H' w (tput n T' o.dst v) (hput H' (L0 + (i - s)) b)) Q') →
            (∀ {T' : Tmps} {a : Act}, (∀ t, t ∉ pe.ms → tget T' t = tget T0 t) → (∀ t, ∃ φ S H w, RV φ S H w (tget T' t) (a.tmps.getD t undef)) → Region.wanted o (yielded all a.tmps) = true) → OpFact P n m all s L0 i pe T0 H0 (v, b) := by
          intro v b T2 hT2 hw hwant T' H' C φ S a w Q' hst h1 h2 h3
          unfold wpOp
          rw [ho, hdst]
          simp only
          rw [if_pos (hwant h1 (fun t => ⟨φ, S, H', w, hst.tmps t⟩))]
          refine .inl (hw Q' hst ⟨fun t => ?_, fun id => ?_⟩ h3)
          · rw [maskT_get]
            by_cases ht : t ∈ pe.ms
            · rw [if_pos ht]; exact .inl rfl
            · rw [if_neg ht, hT2, hT]; exact .inr (h1 t ht)
          · rw [maskH_congr hH]; exact h2 id
        split at h
        · -- no guard
          rename_i hg
          obtain ⟨v, b, hK, hw, hlw⟩ := dstep_sound (m := m) hE h
          refine go (v, b) _ _ (fact (T2 := T) (fun _ => rfl) hw (fun _ _ => by simp [Region.wanted, hg])) (fun hlag => ?_) (fun t => ?_) (fun id => ?_) (by rw [hpr] at hK; exact hK)
          · obtain ⟨hb, hw2⟩ := hlw ((plan_at hp ho hpe).2.2.2 hlag).1
            refine ⟨hb, fun T' H' C φ S a w Q' hst hT' => ?_⟩
            unfold wpOp
            rw [ho, hdst]
            simp only
            rw [if_pos (by simp [Region.wanted, hg])]
            refine .inl (hw2 Q' hst fun t => ?_)
            rw [maskT_get]
            by_cases ht : t ∈ pe.ms
            · rw [if_pos ht]; exact .inl rfl
            · rw [if_neg ht, hT]; exact .inr (hT' t ht)
          · rw [hdst]; exact tget_tput_congr hT t
          · rw [hget_hput, hget_hput, hH]
        · rename_i jg want hg
          have hnolag : pe.lag = true → ∀ {X : Prop}, X := fun hl => by
            have := ((plan_at hp ho hpe).2.2.2 hl).1
            simp [pureOp, hg] at this
          split at h
          · rename_i t ht
            split at h
            · rename_i b0 hb0
              rw [maskT_get] at hb0
              have htm : t ∉ pe.ms := fun hm => by rw [if_pos hm] at hb0; cases hb0
              rw [if_neg htm] at hb0
              have hyield : ∀ {T' : Tmps} {a : Act}, (∀ t, t ∉ pe.ms → tget T' t = tget T0 t) → (∀ t, ∃ φ S H w, RV φ S H w (tget T' t) (a.tmps.getD t undef)) → yielded all a.tmps jg = some b0 := by
                intro T' a h1 h2
                obtain ⟨φ, S, H', w, hv⟩ := h2 t
                have e0 : tget T' t = .d (.bool b0) := by rw [h1 t htm, ← hT]; exact hb0
                rw [e0] at hv
                have e := hv.bool_inv
                unfold guardOf at ht
                split at ht
                · rename_i og hog
                  have hog' : all[jg]? = some og := by simpa using hog
                  have hlt : t < a.tmps.size := by
                    rcases Nat.lt_or_ge t a.tmps.size with h | h
                    · exact h
                    · simp [Nat.not_lt.2 h, undef] at e
                  simp [hlt] at e
                  simp [yielded, hog', ht, hlt, e]
                · cases ht
              split at h
              · rename_i hbw
                subst hbw
                have hTt : ∀ u, tget ((t, V.d (.bool b0)) :: T) u = tget T u := fun u => by
                  simp only [tget]; split
                  · rename_i e; rw [e]; exact hb0.symm
                  · rfl
                obtain ⟨v, b, hK, hw, _⟩ := dstep_sound (m := m) hE h
                refine go (v, b) _ _ (fact hTt hw (fun h1 h2 => by simp [Region.wanted, hg, hyield h1 h2])) (fun hl => hnolag hl) (fun u => ?_) (fun id => ?_) (by rw [hpr] at hK; exact hK)
                · rw [hdst]; exact tget_tput_congr (fun u => (hTt u).trans (hT u)) u
                · rw [hget_hput, hget_hput, hH]
              · rename_i hbw
                have hbn : b0 = !want := by cases b0 <;> cases want <;> simp_all
                have hTt : ∀ u, tget ((t, V.d (.bool !want)) :: T) u = tget T u := fun u => by
                  simp only [tget]; split
                  · rename_i e; rw [e, hb0, hbn]
                  · rfl
                refine go (.d (.tuple []), .dead) _ _ ?_ (fun hl => hnolag hl) (fun u => ?_) (fun id => ?_) (by rw [hpr] at h; exact h)
                · intro T' H' C φ S a w Q' hst h1 h2 h3
                  unfold wpOp
                  rw [ho, hdst]
                  have hwn : ¬ Region.wanted o (yielded all a.tmps) = true := by
                    simp [Region.wanted, hg, hyield h1 (fun t => ⟨φ, S, H', w, hst.tmps t⟩)]; exact hbw
                  simp only
                  rw [if_neg hwn]
                  obtain ⟨q1, q2⟩ := (hst.skip o.dst).bury h3
                  exact ⟨φ, S, q1, q2.toM (Nat.le_refl _), .refl⟩
                · rw [hdst]; exact tget_tput_congr (fun u => (hTt u).trans (hT u)) u
                · rw [hget_hput, hget_hput, hH]
            · rename_i hb0
              rw [maskT_get] at hb0
              have htm : t ∉ pe.ms := fun hm => by rw [if_pos hm] at hb0; cases hb0
              rw [if_neg htm] at hb0
              refine go (.d (.tuple []), .dead) _ _ ?_ (fun hl => hnolag hl) (fun u => ?_) (fun id => ?_) (by rw [hpr] at h; exact h)
              · intro T' H' C φ S a w Q' hst h1 h2 h3
                unfold wpOp
                rw [ho, hdst]
                have hv := hst.tmps t
                have e0 : tget T' t = .d (.tuple []) := by rw [h1 t htm, ← hT]; exact hb0
                rw [e0] at hv
                have hwn : ¬ Region.wanted o (yielded all a.tmps) = true := by
                  simp [Region.wanted, hg, yielded_no ht (tuple0_inv hv)]
                simp only
                rw [if_neg hwn]
                obtain ⟨q1, q2⟩ := (hst.skip o.dst).bury h3
                exact ⟨φ, S, q1, q2.toM (Nat.le_refl _), .refl⟩
              · rw [hdst]; exact tget_tput_congr hT u
              · rw [hget_hput, hget_hput, hH]
            · exact h.elim
          · exact h.elim

theorem hget_length (H : Heap) : ∀ (id : Nat), H.length ≤ id → hget H id = .unborn := by
  induction H with
  | nil => intro id _; rfl
  | cons b H ih =>
    intro id h
    cases id with
    | zero => simp at h
    | succ id => exact ih id (by simpa using h)

theorem gT_add {p : Nat → Bool} {R : Nat → V × Blk} : ∀ (k l i : Nat) (T : Tmps), gT n all R p (k + l) i T = gT n all R p l (i + k) (gT n all R p k i T)
  | 0, l, i, T => by simp [gT]
  | k + 1, l, i, T => by
    rw [show k + 1 + l = (k + l) + 1 by omega]
    simp only [gT]
    rw [gT_add k l (i + 1)]
    congr 1; omega

theorem gT_big {p : Nat → Bool} {R : Nat → V × Blk} {t : Nat} (ht : n ≤ t) : ∀ (k i : Nat) (T : Tmps), tget (gT n all R p k i T) t = tget T t
  | 0, _, _ => rfl
  | k + 1, i, T => by
    simp only [gT]
    rw [gT_big ht k (i + 1)]
    split
    · cases hd : dstAt all i with
      | none => rfl
      | some d =>
        simp only [tput]
        split
        · rename_i h; simp only [tget]; rw [if_neg (by omega)]
        · rfl
    · rfl

/-- The slots of those that lag. -/
def Xd (n : Nat) (all : Array Oper) (X : List Nat) : List Nat := X.filterMap fun x => match dstAt all x with
  | some t => if t < n then some t else none
  | none => none

theorem mem_Xd {X : List Nat} {t : Nat} : t ∈ Xd n all X ↔ ∃ x ∈ X, dstAt all x = some t ∧ t < n := by
  unfold Xd
  rw [List.mem_filterMap]
  constructor
  · rintro ⟨x, hx, h⟩
    refine ⟨x, hx, ?_⟩
    split at h
    · rename_i t' ht
      split at h
      · rename_i hn; simp at h; subst h; exact ⟨ht, hn⟩
      · cases h
    · cases h
  · rintro ⟨x, hx, h1, h2⟩
    exact ⟨x, hx, by rw [h1]; simp [h2]⟩

/-- What is told of those that lag. -/
def XInv (P : Program) (n m : Nat) (all : Array Oper) (plan : List PE) (listed : Array Bool) (s : Nat) (T0 : Tmps) (X : List Nat) (vx : Nat → V) : Prop :=
  ∀ x ∈ X, x < s ∧ listed.getD x false = false ∧ ∃ o pe Tx, all[x]? = some o ∧ plan[x]? = some pe ∧ pe.lag = true ∧ LagFact P n m all x pe Tx (vx x) ∧ (∀ t, t ∉ pe.ms → tget T0 t = tget Tx t) ∧
    (∀ t, dstAt all x = some t → t < n → tget T0 t = vx x)

theorem any_sound (hE : EOk P E) (hp : planOk all.toList plan = true) {Q' : Exit → Act → World → Prop} {C : Ctx} {φ0 : Nat → Option Loc} {S0 : Nat → Prop} {H00 : Heap} {w0 : World}
    (hQ' : ∀ (T : Tmps) (H : Heap) (φ : Nat → Option Loc) (S : Nat → Prop) (a : Act) (w : World), Q T H → Stands C n T H φ S a w → StepM m φ0 S0 H00 w0 φ S H w → Kp C w0 w → Q' .normal a w) :
    ∀ (fuel : Nat) (U : List Nat) (s e : Nat) (T0 : Tmps) (H0 : Heap) (R : Nat → V × Blk) (X : List Nat) (vx : Nat → V) (listed : Array Bool) (a : Act) (w : World) (φ : Nat → Option Loc) (S : Nat → Prop), U.length ≤ fuel → (∀ j, j < all.size → listed.getD j false = false → j ∈ U) →
      listed.size = all.size → Closed all listed → s ≤ e → e ≤ all.size →
      (∀ (j : Nat) (pe : PE), s ≤ j → j < e → plan[j]? = some pe → pe.bar = false ∧ OpFact P n m all s H0.length j pe (gT n all R (fun _ => true) (j - s) s T0) (gH s H0.length R (fun _ => true) (j - s) s H0) (R j) ∧
        (pe.lag = true → (R j).2 = .dead ∧ LagFact P n m all j pe (gT n all R (fun _ => true) (j - s) s T0) (R j).1)) →
      Stop P E n all plan Q e (gT n all R (fun _ => true) (e - s) s T0) (gH s H0.length R (fun _ => true) (e - s) s H0) →
      (∀ j, j < s → listed.getD j false = true ∨ j ∈ X) → XInv P n m all plan listed s T0 X vx → (∀ j, e ≤ j → j < all.size → listed.getD j false = false) →
      Stands C n (gT n all R (fun j => listed.getD j false) (e - s) s (maskT (Xd n all X) T0)) (gH s H0.length R (fun j => listed.getD j false) (e - s) s H0) φ S a w →
      StepM m φ0 S0 H00 w0 φ S (gH s H0.length R (fun j => listed.getD j false) (e - s) s H0) w → Kp C w0 w → wpAny P .any all Q' fuel listed a w := by
  -- all are listed
  have fin : ∀ (s e : Nat) (T0 : Tmps) (H0 : Heap) (R : Nat → V × Blk) (X : List Nat) (vx : Nat → V) (listed : Array Bool) (a : Act) (w : World) (φ : Nat → Option Loc) (S : Nat → Prop), (∀ j, j < all.size → listed.getD j false = true) → s ≤ e → e ≤ all.size →
      Stop P E n all plan Q e (gT n all R (fun _ => true) (e - s) s T0) (gH s H0.length R (fun _ => true) (e - s) s H0) → XInv P n m all plan listed s T0 X vx → (∀ j, e ≤ j → j < all.size → listed.getD j false = false) →
      Stands C n (gT n all R (fun j => listed.getD j false) (e - s) s (maskT (Xd n all X) T0)) (gH s H0.length R (fun j => listed.getD j false) (e - s) s H0) φ S a w →
      StepM m φ0 S0 H00 w0 φ S (gH s H0.length R (fun j => listed.getD j false) (e - s) s H0) w → Kp C w0 w → Q' .normal a w := by
    intro s e T0 H0 R X vx listed a w φ S hall hse hes hstop hX hl2 hst hsm hk
    have hX0 : X = [] := List.eq_nil_iff_forall_not_mem.2 (fun x hx => by
      obtain ⟨_, h1, o, _, _, ho, _⟩ := hX x hx
      rw [hall x (Array.getElem?_eq_some_iff.1 ho).1] at h1; cases h1)
    subst hX0
    have he : e = all.size := by
      rcases Nat.lt_or_ge e all.size with h | h
      · have h1 := hall e h; rw [hl2 e (Nat.le_refl _) h] at h1; cases h1
      · omega
    rcases hstop with ⟨_, T, H, hT, hH, hq⟩ | ⟨o, pe, ho, _⟩
    · have eT : ∀ t, tget T t = tget (gT n all R (fun j => listed.getD j false) (e - s) s (maskT (Xd n all []) T0)) t := fun t => by
        rw [hT]
        exact gT_same _ _ _ _ (fun j h1 h2 _ => (hall j (by omega)).symm) rfl
      have eH : ∀ id, hget H id = hget (gH s H0.length R (fun j => listed.getD j false) (e - s) s H0) id := fun id => by
        rw [hH, gH_get _ _ _ _ (Nat.le_refl _), gH_get _ _ _ _ (Nat.le_refl _)]
        by_cases h : H0.length + (s - s) ≤ id ∧ id < H0.length + (s - s) + (e - s)
        · rw [if_pos ⟨h.1, h.2, rfl⟩, if_pos ⟨h.1, h.2, hall _ (by omega)⟩]
        · rw [if_neg (fun g => h ⟨g.1, g.2.1⟩), if_neg (fun g => h ⟨g.1, g.2.1⟩)]
      exact hQ' T H φ S a w hq (hst.congr eT eH) (hsm.congr eH) hk
    · have := (Array.getElem?_eq_some_iff.1 ho).1; omega
  intro fuel
  induction fuel with
  | zero =>
    intro U s e T0 H0 R X vx listed a w φ S hU hUl hsz hc hse hes hf hstop hl1 hX hl2 hst hsm hk
    have hU0 : U = [] := List.eq_nil_of_length_eq_zero (by omega)
    have hall : ∀ j, j < all.size → listed.getD j false = true := fun j hj => by
      cases h : listed.getD j false with
      | true => rfl
      | false => have := hUl j hj h; rw [hU0] at this; simp at this
    refine ⟨?_, fin s e T0 H0 R X vx listed a w φ S hall hse hes hstop hX hl2 hst hsm hk⟩
    refine List.eq_nil_iff_forall_not_mem.2 (fun j hj => ?_)
    obtain ⟨h0, o, ho, _⟩ := ready_deps hj
    have hjs : j < all.size := (Array.getElem?_eq_some_iff.1 ho).1
    have h1 := hall j hjs
    have hjl : j < listed.size := by omega
    simp [hjl] at h0 h1
    rw [h0] at h1; cases h1
  | succ fuel ih =>
    intro U s e T0 H0 R X vx listed a w φ S hU hUl hsz hc hse hes hf hstop hl1 hX hl2 hst hsm hk
    refine ⟨fun hr => fin s e T0 H0 R X vx listed a w φ S (not_ready hsz hp hr) hse hes hstop hX hl2 hst hsm hk, fun j hj => ?_⟩
    obtain ⟨h0, o, ho, hd⟩ := ready_deps hj
    have hjs : j < all.size := (Array.getElem?_eq_some_iff.1 ho).1
    have hjl : j < listed.size := by omega
    have hLj : listed.getD j false = false := by simp [hjl] at h0 ⊢; exact h0
    obtain ⟨pe, hpe⟩ := plan_some hp hjs
    have hclB : ∀ k, k ∈ planB plan j → listed.getD k false = true := fun k hk => closed_B hp hc j k o ho hd hk
    have hpj := plan_at hp ho hpe
    have hinc := hpj.2.2.1
    have hB : ∀ k, k ∈ pe.B → listed.getD k false = true ∧ k < j := fun k hk => by
      have : k ∈ planB plan j := by simp [planB, hpe, hk]
      exact ⟨hclB k this, planB_lt hp j k this hjs⟩
    -- of one that is listed this one does not come ahead
    have hnot : ∀ k, k < all.size → listed.getD k false = true → j ∉ planB plan k := fun k hk hL hjk => by
      have hok : all[k]? = some all[k] := by simp
      have := closed_B hp hc k j all[k] hok (hc k all[k] hL hok) hjk
      rw [hLj] at this; cases this
    have hUj : j ∈ U := hUl j hjs hLj
    have hU' : (U.erase j).length ≤ fuel := by rw [List.length_erase_of_mem hUj]; omega
    have hUl' : ∀ k, k < all.size → (listed.setIfInBounds j true).getD k false = false → k ∈ U.erase j := fun k hk hL => by
      have hne : k ≠ j := fun e => by subst e; simp [hjl] at hL
      rw [getD_set_ne false (Ne.symm hne)] at hL
      exact (List.mem_erase_of_ne hne).2 (hUl k hk hL)
    have hL'ne : ∀ k, k ≠ j → (listed.setIfInBounds j true).getD k false = listed.getD k false := fun k hne => getD_set_ne false (Ne.symm hne)
    have hL'j : (listed.setIfInBounds j true).getD j false = true := by simp [hjl]
    have hdj : dstAt all j = o.dst := by simp [dstAt, ho]
    have hXun : ∀ x ∈ X, listed.getD x false = false := fun x hx => (hX x hx).2.1
    have hXs : ∀ x ∈ X, x < s := fun x hx => (hX x hx).1
    have hXsz : ∀ x ∈ X, x < all.size := fun x hx => by obtain ⟨_, _, o', _, _, ho', _⟩ := hX x hx; exact (Array.getElem?_eq_some_iff.1 ho').1
    rcases Nat.lt_or_ge j s with hsj | hsj
    · -- one that lagged
      have hjX : j ∈ X := (hl1 j hsj).resolve_left (by rw [hLj]; simp)
      obtain ⟨_, _, o', pe', Tx, ho', hpe', hlag, hfact, hTx, hvx⟩ := hX j hjX
      rw [ho] at ho'; cases ho'
      rw [hpe] at hpe'; cases hpe'
      obtain ⟨_, _, hdm, hl4⟩ := hpj.2.2.2 hlag
      -- who writes a slot that is not masked comes ahead
      have hw : ∀ k, k < all.size → k ≠ j → ∀ t, dstAt all k = some t → k ∈ pe.B ∨ (t ∈ pe.ms ∧ o.dst ≠ some t) := fun k hk hne t ht => by
        have hok : all[k]? = some all[k] := by simp
        rcases hl4 k all[k] hok with h | h | h
        · exact absurd h hne
        · exact .inl h
        · exact .inr (h t (by simpa [dstAt, hok] using ht))
      have hslots : ∀ t, t ∉ pe.ms → tget (gT n all R (fun j => listed.getD j false) (e - s) s (maskT (Xd n all X) T0)) t = tget Tx t := fun t ht => by
        rw [gT_un _ _ _ (fun l h1 h2 h3 h4 => by
          rcases hw l (by omega) (by omega) t h4 with h | h
          · have := (hB l h).2; omega
          · exact ht h.1)]
        rw [maskT_get, if_neg (fun hm => by
          obtain ⟨y, hy, hyd, _⟩ := mem_Xd.1 hm
          by_cases e : y = j
          · subst e; rw [hdj] at hyd; exact ht (hdm t hyd)
          · rcases hw y (hXsz y hy) e t hyd with h | h
            · have := (hB y h).1; rw [hXun y hy] at this; cases this
            · exact ht h.1)]
        exact hTx t ht
      refine wpOp_mono ?_ (hfact _ _ C φ S a w Q' hst hslots)
      rintro a' w' ⟨φ', S', g1, g2, g3⟩
      have hpred : ∀ l, s ≤ l → l < s + (e - s) → ∀ t, dstAt all l = some t → (listed.setIfInBounds j true).getD l false = listed.getD l false := fun l h1 h2 t _ => hL'ne l (by omega)
      have eT : ∀ t, tget (gT n all R (fun k => (listed.setIfInBounds j true).getD k false) (e - s) s (maskT (Xd n all (X.filter (· ≠ j))) T0)) t = tget (tput n (gT n all R (fun j => listed.getD j false) (e - s) s (maskT (Xd n all X) T0)) (dstAt all j) (vx j)) t := fun t => by
        by_cases hdt : dstAt all j = some t ∧ t < n
        · obtain ⟨hdt, htn⟩ := hdt
          rw [hdt, tget_tput_eq htn]
          have hodt : o.dst = some t := by rw [← hdj]; exact hdt
          rw [gT_un _ _ _ (fun l h1 h2 h3 h4 => by
            rcases hw l (by omega) (by omega) t h4 with h | h
            · have := (hB l h).2; omega
            · exact h.2 hodt)]
          rw [maskT_get, if_neg (fun hm => by
            obtain ⟨y, hy, hyd, _⟩ := mem_Xd.1 hm
            obtain ⟨hy1, hy2⟩ := List.mem_filter.1 hy
            have hyj : y ≠ j := by simpa using hy2
            rcases hw y (hXsz y hy1) hyj t hyd with h | h
            · have := (hB y h).1; rw [hXun y hy1] at this; cases this
            · exact h.2 hodt)]
          exact hvx t hdt htn
        · have hr : tget (tput n (gT n all R (fun j => listed.getD j false) (e - s) s (maskT (Xd n all X) T0)) (dstAt all j) (vx j)) t = tget (gT n all R (fun j => listed.getD j false) (e - s) s (maskT (Xd n all X) T0)) t := by
            by_cases h1 : dstAt all j = some t
            · have : ¬ t < n := fun h2 => hdt ⟨h1, h2⟩
              rw [h1]; simp only [tput]; rw [if_neg this]
            · exact tget_tput_ne h1
          rw [hr]
          refine gT_same _ _ _ _ (fun l h1 h2 h3 => hpred l h1 h2 t h3) ?_
          rw [maskT_get, maskT_get]
          have : t ∈ Xd n all (X.filter (· ≠ j)) ↔ t ∈ Xd n all X := by
            rw [mem_Xd, mem_Xd]
            constructor
            · rintro ⟨y, hy, hh⟩; exact ⟨y, (List.mem_filter.1 hy).1, hh⟩
            · rintro ⟨y, hy, h1, h2⟩
              exact ⟨y, List.mem_filter.2 ⟨hy, by simp; rintro rfl; exact hdt ⟨h1, h2⟩⟩, h1, h2⟩
          by_cases hm : t ∈ Xd n all X
          · rw [if_pos (this.2 hm), if_pos hm]
          · rw [if_neg (fun h => hm (this.1 h)), if_neg hm]
      have eH : ∀ id, hget (gH s H0.length R (fun k => (listed.setIfInBounds j true).getD k false) (e - s) s H0) id = hget (gH s H0.length R (fun j => listed.getD j false) (e - s) s H0) id := fun id => by
        rw [gH_get _ _ _ _ (Nat.le_refl _), gH_get _ _ _ _ (Nat.le_refl _)]
        by_cases h1 : H0.length ≤ id
        · rw [hL'ne _ (by omega)]
        · rw [if_neg (fun g => h1 (by have := g.1; omega)), if_neg (fun g => h1 (by have := g.1; omega))]
      refine ih (U.erase j) s e T0 H0 R (X.filter (· ≠ j)) vx _ a' w' φ' S' hU' hUl' (by simpa using hsz) (hc.set ho hd) hse hes hf hstop (fun k hk' => ?_) (fun x hx => ?_) (fun k h1 h2 => by rw [hL'ne k (by omega)]; exact hl2 k h1 h2)
        (g1.congr eT eH) ((hsm.trans g2).congr eH) (hk.trans g3)
      · by_cases e : k = j
        · subst e; exact .inl hL'j
        · rcases hl1 k hk' with h | h
          · exact .inl (getD_set_true h)
          · exact .inr (List.mem_filter.2 ⟨h, by simpa using e⟩)
      · obtain ⟨hx1, hx2⟩ := List.mem_filter.1 hx
        have hne : x ≠ j := by simpa using hx2
        obtain ⟨q1, q2, q3⟩ := hX x hx1
        exact ⟨q1, by rw [hL'ne x hne]; exact q2, q3⟩
    obtain hje | hje := Nat.lt_or_ge j e
    · -- one of those that may come in any order
      obtain ⟨hbar, hfact, _⟩ := hf j pe hsj hje hpe
      have hincb : ∀ (k : Nat), k < all.size → k = j ∨ k ∈ pe.B ∨ j ∈ planB plan k ∨ ((j < k ∨ k ∈ pe.mi) ∧ ∀ t, dstAt all k = some t → t ∈ pe.ms ∧ o.dst ≠ some t) := fun k hk => by
        have hok : all[k]? = some all[k] := by simp
        rcases hinc k all[k] hok with h | h | h | h | h
        · exact .inl h
        · exact .inr (.inl h)
        · exact .inr (.inr (.inl h))
        · exact .inr (.inr (.inr ⟨h.2.1, fun t ht => h.2.2 t (by simpa [dstAt, hok] using ht)⟩))
        · rw [hbar] at h; cases h.1
      -- what is told of the others
      have hothers : ∀ (k : Nat), k < all.size → k ≠ j → listed.getD k false = true → ∀ t, dstAt all k = some t → (k < j) ∨ (t ∈ pe.ms ∧ o.dst ≠ some t) := fun k hk hne hL t ht => by
        rcases hincb k hk with h | h | h | h
        · exact absurd h hne
        · exact .inl (hB k h).2
        · exact absurd h (hnot k hk hL)
        · exact .inr (h.2 t ht)
      have hbase : ∀ t, t ∉ pe.ms → tget (maskT (Xd n all X) T0) t = tget T0 t := fun t ht => by
        rw [maskT_get, if_neg (fun hm => by
          obtain ⟨y, hy, hyd, _⟩ := mem_Xd.1 hm
          have hys := hXs y hy
          rcases hincb y (hXsz y hy) with h | h | h | h
          · omega
          · have := (hB y h).1; rw [hXun y hy] at this; cases this
          · have := planB_lt hp y j h (hXsz y hy); omega
          · exact ht (h.2 t hyd).1)]
      have hslots : ∀ t, t ∉ pe.ms → tget (gT n all R (fun j => listed.getD j false) (e - s) s (maskT (Xd n all X) T0)) t = tget (gT n all R (fun _ => true) (j - s) s T0) t := fun t ht => by
        rw [show e - s = (j - s) + (e - j) by omega, gT_add, show s + (j - s) = j by omega]
        rw [gT_un (t := t) (e - j) j _ (fun l h1 h2 h3 h4 => by
          have hne : l ≠ j := fun e => by subst e; have h3' : listed.getD l false = true := h3; rw [hLj] at h3'; cases h3'
          rcases hothers l (by omega) hne h3 t h4 with h | h
          · omega
          · exact ht h.1)]
        refine gT_same _ _ _ _ (fun k h1 h2 h3 => ?_) (hbase t ht)
        have hk : k < all.size := by omega
        rcases hincb k hk with h | h | h | h
        · omega
        · exact (hB k h).1
        · have := planB_lt hp k j h hk; omega
        · exact absurd (h.2 t h3).1 ht
      have hheap : ∀ id, hget (maskH s H0.length pe.mi (gH s H0.length R (fun _ => true) (j - s) s H0)) id = .unborn ∨
          hget (gH s H0.length R (fun j => listed.getD j false) (e - s) s H0) id = hget (maskH s H0.length pe.mi (gH s H0.length R (fun _ => true) (j - s) s H0)) id := fun id => by
        rw [maskH_get]
        split
        · exact .inl rfl
        · rename_i hm
          rw [gH_get _ _ _ _ (Nat.le_refl _), gH_get _ _ _ _ (Nat.le_refl _)]
          by_cases h1 : H0.length ≤ id
          · by_cases h2 : id < H0.length + (j - s)
            · rw [if_pos ⟨by omega, by omega, rfl⟩]
              right
              have hk : s + (id - H0.length) < all.size := by omega
              have hLk : listed.getD (s + (id - H0.length)) false = true := by
                rcases hincb _ hk with h | h | h | h
                · omega
                · exact (hB _ h).1
                · have := planB_lt hp _ j h hk; omega
                · rcases h.1 with h3 | h3
                  · omega
                  · exact absurd ⟨_, h3, by omega, by omega⟩ hm
              have c : H0.length + (s - s) ≤ id ∧ id < H0.length + (s - s) + (e - s) := ⟨by omega, by omega⟩
              rw [if_pos ⟨c.1, c.2, hLk⟩]
            · rw [if_neg (fun g => h2 (by have := g.2.1; omega))]
              exact .inl (hget_length H0 id h1)
          · rw [if_neg (fun g => h1 (by have := g.1; omega)), if_neg (fun g => h1 (by have := g.1; omega))]
            exact .inr rfl
      have hnid : hget (gH s H0.length R (fun j => listed.getD j false) (e - s) s H0) (H0.length + (j - s)) = .unborn := by
        rw [gH_get _ _ _ _ (Nat.le_refl _)]
        have ej : s + (H0.length + (j - s) - H0.length) = j := by omega
        rw [ej, if_neg (fun g => by rw [hLj] at g; cases g.2.2)]
        exact hget_length H0 _ (by omega)
      refine wpOp_mono ?_ (hfact _ _ C φ S a w Q' hst hslots hheap hnid)
      rintro a' w' ⟨φ', S', g1, g2, g3⟩
      have eT : ∀ t, tget (gT n all R (fun k => (listed.setIfInBounds j true).getD k false) (e - s) s (maskT (Xd n all X) T0)) t = tget (tput n (gT n all R (fun j => listed.getD j false) (e - s) s (maskT (Xd n all X) T0)) (dstAt all j) (R j).1) t := fun t => by
        by_cases hdt : dstAt all j = some t
        · by_cases htn : t < n
          · rw [gT_last hdt htn hL'j (e - s) s _ hsj (by omega) (fun l h1 h2 h3 h4 => by
              have h3' : (listed.setIfInBounds j true).getD l false = true := h3
              rw [hL'ne l (by omega)] at h3'
              rcases hothers l (by omega) (by omega) h3' t h4 with h | h
              · omega
              · exact h.2 (by rw [← hdj]; exact hdt)), hdt, tget_tput_eq htn]
          · rw [gT_big (by omega), hdt]
            simp only [tput]
            rw [if_neg htn, gT_big (by omega)]
        · rw [tget_tput_ne hdt]
          refine gT_same _ _ _ _ (fun k h1 h2 h3 => ?_) rfl
          exact hL'ne k (fun e => hdt (e ▸ h3))
      have eH : ∀ id, hget (gH s H0.length R (fun k => (listed.setIfInBounds j true).getD k false) (e - s) s H0) id = hget (hput (gH s H0.length R (fun j => listed.getD j false) (e - s) s H0) (H0.length + (j - s)) (R j).2) id := fun id => by
        rw [hget_hput, gH_get _ _ _ _ (Nat.le_refl _), gH_get _ _ _ _ (Nat.le_refl _)]
        by_cases hid : id = H0.length + (j - s)
        · subst hid
          have ej : s + (H0.length + (j - s) - H0.length) = j := by omega
          rw [if_pos rfl, ej, if_pos ⟨by omega, by omega, hL'j⟩]
        · rw [if_neg hid]
          by_cases h1 : H0.length ≤ id
          · rw [hL'ne _ (by omega)]
          · rw [if_neg (fun g => h1 (by have := g.1; omega)), if_neg (fun g => h1 (by have := g.1; omega))]
      refine ih (U.erase j) s e T0 H0 R X vx _ a' w' φ' S' hU' hUl' (by simpa using hsz) (hc.set ho hd) hse hes hf hstop (fun k hk' => (hl1 k hk').imp getD_set_true id) (fun x hx => ?_) (fun k h1 h2 => by rw [hL'ne k (by omega)]; exact hl2 k h1 h2)
        (g1.congr eT eH) ((hsm.trans g2).congr eH) (hk.trans g3)
      obtain ⟨q1, q2, q3⟩ := hX x hx
      exact ⟨q1, by rw [hL'ne x (by omega)]; exact q2, q3⟩
    · -- a barrier
      have hes' : e < all.size := by omega
      rcases hstop with ⟨he, _⟩ | ⟨oe, pee, hoe, hpee, hbar, hgu, T, H, hT, hH, hstep⟩
      · omega
      have hince := (plan_at hp hoe hpee).2.2.1
      have hje' : j = e := by
        rcases hince j o ho with h | h | h | h | h
        · exact h
        · have : j ∈ planB plan e := by simp [planB, hpee, h]
          have := planB_lt hp e j this hes'; omega
        · have := hclB e h
          rw [hl2 e (Nat.le_refl _) hes'] at this; cases this
        · rw [hbar] at h; cases h.1
        · omega
      subst hje'
      rw [ho] at hoe; cases hoe
      rw [hpe] at hpee; cases hpee
      -- who is not listed lags
      have hlagk : ∀ k, k < j → listed.getD k false = false → planLag plan k = true ∧ ∀ t, dstAt all k = some t → t ∈ pe.ms ∧ o.dst ≠ some t := fun k hkj hL => by
        have hk : k < all.size := by omega
        have hok : all[k]? = some all[k] := by simp
        rcases hince k all[k] hok with h | h | h | h | h
        · omega
        · have := (hB k h).1; rw [hL] at this; cases this
        · have := planB_lt hp k j h hk; omega
        · rw [hbar] at h; cases h.1
        · exact ⟨h.2.2.1, fun t ht => h.2.2.2 t (by simpa [dstAt, hok] using ht)⟩
      have hlagpe : ∀ k, planLag plan k = true → ∃ pk, plan[k]? = some pk ∧ pk.lag = true := fun k h => by
        unfold planLag at h
        cases hk : plan[k]? with
        | none => rw [hk] at h; cases h
        | some pk => rw [hk] at h; exact ⟨pk, rfl, h⟩
      -- the slots
      have hreal : ∀ t, t ∉ pe.ms → tget (gT n all R (fun j => listed.getD j false) (j - s) s (maskT (Xd n all X) T0)) t = tget T t := fun t ht => by
        rw [hT]
        refine gT_same _ _ _ _ (fun k h1 h2 h3 => ?_) ?_
        · cases hL : listed.getD k false with
          | true => rfl
          | false => exact absurd ((hlagk k (by omega) hL).2 t h3).1 ht
        · rw [maskT_get, if_neg (fun hm => by
            obtain ⟨y, hy, hyd, _⟩ := mem_Xd.1 hm
            have hys := hXs y hy
            exact ht ((hlagk y (by omega) (hXun y hy)).2 t hyd).1)]
      -- the heap
      have hbury : ∀ id, hget H id = hget (gH s H0.length R (fun j => listed.getD j false) (j - s) s H0) id ∨ (hget (gH s H0.length R (fun j => listed.getD j false) (j - s) s H0) id = .unborn ∧ hget H id = .dead) := fun id => by
        rw [hH, gH_get _ _ _ _ (Nat.le_refl _), gH_get _ _ _ _ (Nat.le_refl _)]
        by_cases h : H0.length + (s - s) ≤ id ∧ id < H0.length + (s - s) + (j - s)
        · rw [if_pos ⟨h.1, h.2, rfl⟩]
          cases hL : listed.getD (s + (id - H0.length)) false with
          | true => rw [if_pos ⟨h.1, h.2, rfl⟩]; exact .inl rfl
          | false =>
            rw [if_neg (fun g => by cases g.2.2)]
            right
            obtain ⟨pk, hpk, hlk⟩ := hlagpe _ (hlagk (s + (id - H0.length)) (by omega) hL).1
            exact ⟨hget_length H0 id (by omega), ((hf _ pk (by omega) (by omega) hpk).2.2 hlk).1⟩
        · rw [if_neg (fun g => h ⟨g.1, g.2.1⟩), if_neg (fun g => h ⟨g.1, g.2.1⟩)]; exact .inl rfl
      obtain ⟨hst', hs'⟩ := hst.buryAll hbury
      have hsm' : StepM m φ0 S0 H00 w0 φ S H w := hsm.trans (hs'.toM (Nat.le_refl _))
      unfold wpOp
      rw [ho]
      simp only
      rw [if_pos (by simp [Region.wanted, hgu])]
      refine .inl (Oper.wp_mono ?_ (bstep_sound (m := m) (Q := Q') hE hst' hreal hstep))
      rintro a' w' ⟨r, H1, φ1, S1, hdr, g1, g2, g3⟩
      obtain ⟨e', R', q1, q2, q3, q4⟩ := extract (m := m) hE hp (all.toList.drop (j + 1)) (j + 1) (tput n T o.dst r) H1 (tput n T o.dst r) H1 rfl (by simp; omega) (Nat.le_refl _) (fun _ => rfl) (fun _ => rfl) hdr
      have hL'f : ∀ k, j + 1 ≤ k → k < all.size → (listed.setIfInBounds j true).getD k false = false := fun k h1 h2 => by rw [hL'ne k (by omega)]; exact hl2 k (by omega) h2
      -- who lags now
      let X' : List Nat := X ++ (List.range j).filter fun k => decide (s ≤ k) && !listed.getD k false
      have memX' : ∀ k, k ∈ X' ↔ k ∈ X ∨ (s ≤ k ∧ k < j ∧ listed.getD k false = false) := fun k => by
        simp only [X', List.mem_append, List.mem_filter, List.mem_range, Bool.and_eq_true, decide_eq_true_eq, Bool.not_eq_true']
        constructor
        · rintro (h | ⟨h1, h2, h3⟩)
          · exact .inl h
          · exact .inr ⟨h2, h1, h3⟩
        · rintro (h | ⟨h1, h2, h3⟩)
          · exact .inl h
          · exact .inr ⟨h2, h1, h3⟩
      have hX'un : ∀ x ∈ X', x < j ∧ listed.getD x false = false := fun x hx => by
        rcases (memX' x).1 hx with h | h
        · have := hXs x h; exact ⟨by omega, hXun x h⟩
        · exact ⟨h.2.1, h.2.2⟩
      have eT1 : ∀ t, tget (gT n all R' (fun k => (listed.setIfInBounds j true).getD k false) (e' - (j + 1)) (j + 1) (maskT (Xd n all X') (tput n T o.dst r))) t = tget (maskT (Xd n all X') (tput n (gT n all R (fun j => listed.getD j false) (j - s) s (maskT (Xd n all X) T0)) o.dst r)) t := fun t => by
        rw [gT_un _ _ _ (fun k h1 h2 h3 => by
          have h3' : (listed.setIfInBounds j true).getD k false = true := h3
          rw [hL'f k h1 (by omega)] at h3'; cases h3')]
        rw [maskT_get, maskT_get]
        by_cases hm : t ∈ Xd n all X'
        · rw [if_pos hm, if_pos hm]
        · rw [if_neg hm, if_neg hm]
          by_cases htn : t < n
          · refine tget_tput_cong1 ?_
            -- not the slot of one that lags
            rw [hT]
            symm
            refine gT_same _ _ _ _ (fun k h1 h2 h3 => ?_) ?_
            · cases hL : listed.getD k false with
              | true => rfl
              | false => exact absurd (mem_Xd.2 ⟨k, (memX' k).2 (.inr ⟨by omega, by omega, hL⟩), h3, htn⟩) hm
            · rw [maskT_get, if_neg (fun hm' => by
                obtain ⟨y, hy, hyd⟩ := mem_Xd.1 hm'
                exact hm (mem_Xd.2 ⟨y, (memX' y).2 (.inl hy), hyd⟩))]
          · have hb1 : ∀ (TT : Tmps), tget (tput n TT o.dst r) t = tget TT t := fun TT => by
              cases ho' : o.dst with
              | none => rfl
              | some d =>
                simp only [tput]
                split
                · rename_i hdn
                  simp only [tget]
                  rw [if_neg (by omega)]
                · rfl
            rw [hb1, hb1, hT, gT_big (by omega), gT_big (by omega), maskT_get, if_neg (fun hm' => by
              obtain ⟨y, hy, hyd⟩ := mem_Xd.1 hm'; exact htn hyd.2)]
      have hstm : Stands C n (maskT (Xd n all X') (tput n (gT n all R (fun j => listed.getD j false) (j - s) s (maskT (Xd n all X) T0)) o.dst r)) H1 φ1 S1 a' w' := ⟨g1.heap, fun t => by
        rw [maskT_get]
        split
        · exact .d _ _ (.undef _)
        · exact g1.tmps t, g1.size, g1.defers⟩
      have eH1 : ∀ id, hget (gH (j + 1) H1.length R' (fun k => (listed.setIfInBounds j true).getD k false) (e' - (j + 1)) (j + 1) H1) id = hget H1 id := fun id => by
        rw [gH_get _ _ _ _ (Nat.le_refl _)]
        rw [if_neg (fun g => by
          have h1 := g.1; have h2 := g.2.1
          rw [hL'f _ (by omega) (by omega)] at g; cases g.2.2)]
      refine ih (U.erase j) (j + 1) e' (tput n T o.dst r) H1 R' X' (fun x => if x < s then vx x else (R x).1) _ a' w' φ1 S1 hU' hUl' (by simpa using hsz) (hc.set ho hd) q1 q2 q3 q4
        (fun k hk' => ?_) (fun x hx => ?_) (fun k h1 h2 => hL'f k (by omega) h2) (hstm.congr eT1 eH1) ((hsm'.trans g2).congr eH1) (hk.trans g3)
      · by_cases e : k = j
        · subst e; exact .inl hL'j
        · cases hL : listed.getD k false with
          | true => exact .inl (getD_set_true hL)
          | false =>
            refine .inr ((memX' k).2 ?_)
            rcases Nat.lt_or_ge k s with h | h
            · exact .inl ((hl1 k h).resolve_left (by rw [hL]; simp))
            · exact .inr ⟨h, by omega, hL⟩
      · obtain ⟨hxj, hxL⟩ := hX'un x hx
        have hxs : x < all.size := by omega
        have hox : all[x]? = some all[x] := by simp
        obtain ⟨hlx, hdx⟩ := hlagk x hxj hxL
        obtain ⟨px, hpx, hlpx⟩ := hlagpe x hlx
        obtain ⟨_, _, hdm, hl4⟩ := (plan_at hp hox hpx).2.2.2 hlpx
        have hdxa : dstAt all x = (all[x]).dst := by simp [dstAt, hox]
        -- behind it nobody writes what it reads, nor its slot
        have hw : ∀ k, k < all.size → x < k → ∀ t, dstAt all k = some t → t ∈ px.ms ∧ dstAt all x ≠ some t := fun k hk hxk t ht => by
          have hok : all[k]? = some all[k] := by simp
          rcases hl4 k all[k] hok with h | h | h
          · omega
          · have : k ∈ planB plan x := by simp [planB, hpx, h]
            have := planB_lt hp x k this hxs; omega
          · rw [hdxa]; exact h t (by simpa [dstAt, hok] using ht)
        have hTe : ∀ t, dstAt all j ≠ some t → tget (tput n T o.dst r) t = tget (gT n all R (fun _ => true) (j - s) s T0) t := fun t ht => by
          rw [tget_tput_ne (by rw [← hdj]; exact ht), hT]
        rcases Nat.lt_or_ge x s with h | h
        · have hxX : x ∈ X := by
            rcases (memX' x).1 hx with h' | h'
            · exact h'
            · omega
          obtain ⟨_, _, o', pe', Tx, ho', hpe', hlag, hfact, hTx, hvx⟩ := hX x hxX
          rw [hox] at ho'; cases ho'
          rw [hpx] at hpe'; cases hpe'
          refine ⟨by omega, by rw [hL'ne x (by omega)]; exact hxL, _, px, Tx, hox, hpx, hlpx, by simpa [h] using hfact, fun t ht => ?_, fun t ht htn => ?_⟩
          · rw [hTe t (fun e => ht (hw j (by omega) hxj t e).1), gT_un _ _ _ (fun l h1 h2 _ h4 => ht (hw l (by omega) (by omega) t h4).1)]
            exact hTx t ht
          · rw [hTe t (fun e => (hw j (by omega) hxj t e).2 ht), gT_un _ _ _ (fun l h1 h2 _ h4 => (hw l (by omega) (by omega) t h4).2 ht)]
            show _ = if x < s then vx x else (R x).1
            rw [if_pos h]
            exact hvx t ht htn
        · obtain ⟨_, _, hfl⟩ := hf x px h hxj hpx
          obtain ⟨_, hfact⟩ := hfl hlpx
          refine ⟨by omega, by rw [hL'ne x (by omega)]; exact hxL, _, px, gT n all R (fun _ => true) (x - s) s T0, hox, hpx, hlpx, by simpa [Nat.not_lt.2 h] using hfact, fun t ht => ?_, fun t ht htn => ?_⟩
          · rw [hTe t (fun e => ht (hw j (by omega) hxj t e).1)]
            rw [show j - s = (x - s) + (j - x) by omega, gT_add, show s + (x - s) = x by omega]
            rw [gT_un _ _ _ (fun l h1 h2 _ h4 => by
              by_cases e : l = x
              · subst e; rw [hdxa] at h4; exact ht (hdm t h4)
              · exact ht (hw l (by omega) (by omega) t h4).1)]
          · rw [hTe t (fun e => (hw j (by omega) hxj t e).2 ht)]
            rw [gT_last ht htn rfl (j - s) s T0 h (by omega) (fun l h1 h2 _ h4 => (hw l (by omega) h1 t h4).2 ht)]
            show _ = if x < s then vx x else (R x).1
            rw [if_neg (by omega)]

/-- A REGION THAT DRAWS ITS ORDER. -/
theorem region_sound (hE : EOk P E) (hmix : P.follows .mixedOrders = true) {id : Nat} {T : Tmps} {H : Heap} {C : Ctx} {φ : Nat → Option Loc} {S : Nat → Prop} {a : Act} {w : World} {Q : Ex → Tmps → Heap → Prop} (hst : Stands C n T H φ S a w)
    (hp : planOk all.toList plan = true) (h : drun P E n all.toList 0 H.length 0 all.toList plan T H (Q .normal)) : (Code.region id all true).wp P (PostQ C n m φ S H w Q) a w := by
  refine wp_region_any hmix ?_
  have hst1 : Stands C n T H φ S a { w with drawn := w.drawn + 1 } := by
    have hs : Step φ S H w φ S H w.drew := Step.drew
    exact ⟨hst.heap.drew, hst.tmps.step hs, hst.size, hst.defers⟩
  have hsm1 : StepM m φ S H w φ S H { w with drawn := w.drawn + 1 } := (Step.drew (φ := φ) (S := S) (H := H) (w := w)).toM (Nat.le_refl _)
  have hk1 : Kp C w { w with drawn := w.drawn + 1 } := ⟨rfl, rfl, rfl, Nat.le_refl _, fun _ _ _ => rfl⟩
  obtain ⟨e, R, q1, q2, q3, q4⟩ := extract (all := all) (m := m) (plan := plan) hE hp all.toList 0 T H T H (by simp) (by simp) (Nat.le_refl _) (fun _ => rfl) (fun _ => rfl) (by simpa using h)
  have hrep : ∀ j, (Array.replicate all.size false).getD j false = false := fun j => by
    simp only [Array.getD_eq_getD_getElem?, Array.getElem?_replicate]
    split <;> rfl
  have eT : ∀ t, tget (gT n all R (fun j => (Array.replicate all.size false).getD j false) (e - 0) 0 (maskT (Xd n all []) T)) t = tget T t := fun t => gT_un _ _ _ (fun k _ _ h3 => by simp only [hrep] at h3; cases h3)
  have eH : ∀ id, hget (gH 0 H.length R (fun j => (Array.replicate all.size false).getD j false) (e - 0) 0 H) id = hget H id := fun id => by
    rw [gH_get _ _ _ _ (Nat.le_refl _), if_neg (fun g => by rw [hrep] at g; cases g.2.2)]
  refine any_sound (m := m) (Q := Q .normal) (plan := plan) hE hp (φ0 := φ) (S0 := S) (H00 := H) (w0 := w) (C := C) (fun T1 H1 φ1 S1 a1 w1 hq h1 h2 h3 => ⟨.normal, T1, H1, φ1, S1, hq, rfl, h1, h2, h3⟩) all.size (List.range all.size) 0 e T H R [] (fun _ => .d .undef)
    (Array.replicate all.size false) a _ φ S (by simp) (fun j hj _ => List.mem_range.2 hj) (by simp) (fun j o hj => by rw [hrep] at hj; cases hj) q1 q2 (fun j pe h1 h2 h3 => q3 j pe h1 h2 h3) q4 (fun j hj => by omega) (fun x hx => by simp at hx) (fun j _ _ => hrep j)
    (hst1.congr eT eH) (hsm1.congr eH) hk1

end
end Go.Proofs.Ythpapgbpmkgfeaa.AM
