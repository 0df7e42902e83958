/- The texts Ab, Am33, Am34, Ac, Ca, Cb, Ad, Ae, Cc, Af, Gb, Gc, Gd, Ge, Gf, Ft, Gg, Cd, Ew, Ce, Cf, joined. -/
import Derived.Test.YtjhfpabldidlgaaGreatJD3

set_option linter.all false
set_option maxRecDepth 100000
set_option maxHeartbeats 4000000
namespace Go.Proofs.YtjhfpabldidlgaaGreat.AM
open Go Go.RowKit

theorem qsrt_snoc : ∀ (l : List Int) (x : Int), srt l = true → (∀ y ∈ l, y ≤ x) → srt (l ++ [x]) = true
  | [], x, _, _ => rfl
  | [a], x, _, h => by simp [srt]; exact h a (by simp)
  | a :: b :: r, x, hs, h => by
    simp only [srt, Bool.and_eq_true, decide_eq_true_eq] at hs
    have := qsrt_snoc (b :: r) x hs.2 (fun y hy => h y (by simp at hy ⊢; exact .inr hy))
    simp only [List.cons_append] at this ⊢
    simp only [srt, Bool.and_eq_true, decide_eq_true_eq]
    exact ⟨hs.1, this⟩
theorem qsrt_le : ∀ {ms : List Int} {x : Int}, srt (ms ++ [x]) = true → srt ms = true ∧ ∀ y ∈ ms, y ≤ x
  | [], x, _ => ⟨rfl, by simp⟩
  | [a], x, h => by simp [srt] at h; exact ⟨rfl, by simp; exact h⟩
  | a :: b :: r, x, h => by
    simp only [List.cons_append, srt, Bool.and_eq_true, decide_eq_true_eq] at h
    obtain ⟨h1, h2⟩ := qsrt_le (ms := b :: r) (by simpa only [List.cons_append] using h.2)
    refine ⟨by simp only [srt, Bool.and_eq_true, decide_eq_true_eq]; exact ⟨h.1, h1⟩, fun y hy => ?_⟩
    rcases List.mem_cons.1 hy with rfl | hy
    · exact Int.le_trans h.1 (h2 b (by simp))
    · exact h2 y hy
theorem qlogR {L : Lg} : logR L = true ↔ L.1.length ≤ 24 ∧ L.2.length ≤ 6 ∧ (∀ w ∈ L.1, wrongW w = false) ∧ (∀ x ∈ L.2, 0 ≤ x ∧ x ≤ (L.1.length : Int)) ∧ srt L.2 = true := by
  simp only [logR, Bool.and_eq_true, decide_eq_true_eq, Bool.not_eq_eq_eq_not, Bool.not_true, List.any_eq_false]
  constructor
  · rintro ⟨⟨⟨⟨a1, a2⟩, a3⟩, a4⟩, a5⟩
    exact ⟨a1, a2, fun w hw => by simpa using a3 w hw, fun x hx => by have := a4 x hx; simp [offI] at this; omega, a5⟩
  · rintro ⟨a1, a2, a3, a4, a5⟩
    exact ⟨⟨⟨⟨a1, a2⟩, fun w hw => by simpa using a3 w hw⟩, fun x hx => by have := a4 x hx; simp [offI]; omega⟩, a5⟩
theorem qput {l : Lg} {w : Int × Int} (h : logR l = true) : logR (logPut l w).1 = true ∧ (logPut l w).1.2 = l.2 := by
  obtain ⟨a1, a2, a3, a4, a5⟩ := qlogR.1 h
  unfold logPut
  split
  · rename_i hw
    split
    · exact ⟨h, rfl⟩
    · rename_i hl
      refine ⟨qlogR.2 ⟨by simp; omega, a2, fun x hx => ?_, fun x hx => ?_, a5⟩, rfl⟩
      · rcases List.mem_append.1 hx with hx | hx
        · exact a3 x hx
        · rw [List.mem_singleton.1 hx]; exact hw.2
      · have := a4 x hx; simp only [List.length_append, List.length_singleton]; omega
  · exact ⟨h, rfl⟩
theorem qmark {l : Lg} (h : logR l = true) (hl : l.2.length < 6) : logR (logMark l).1 = true ∧ (logMark l).1.2.length = l.2.length + 1 := by
  obtain ⟨a1, a2, a3, a4, a5⟩ := qlogR.1 h
  unfold logMark
  rw [if_pos h, if_neg (by omega)]
  refine ⟨qlogR.2 ⟨a1, by simp; omega, a3, fun x hx => ?_, qsrt_snoc _ _ a5 (fun y hy => (a4 y hy).2)⟩, by simp⟩
  rcases List.mem_append.1 hx with hx | hx
  · exact a4 x hx
  · rw [List.mem_singleton.1 hx]; simp only; omega
theorem qmarked {l : Lg} (h : logR l = true) (hl : l.2 ≠ []) : logMarked l = 0 := by
  unfold logMarked
  rw [if_pos h, if_neg (fun e => hl (List.length_eq_zero_iff.1 e))]
theorem qback {l : Lg} (h : logR l = true) (hl : l.2 ≠ []) : (logR (logKeep l).1 = true ∧ (logKeep l).1.2 = l.2.dropLast) ∧ (logR (logBack l).1 = true ∧ (logBack l).1.2 = l.2.dropLast) := by
  obtain ⟨a1, a2, a3, a4, a5⟩ := qlogR.1 h
  obtain ⟨ms, x, e⟩ : ∃ ms x, l.2 = ms ++ [x] := ⟨l.2.dropLast, l.2.getLast hl, (List.dropLast_concat_getLast hl).symm⟩
  have hm := qmarked h hl
  unfold logKeep logBack
  rw [if_pos hm, if_pos hm]
  rw [e] at a2 a4 a5
  obtain ⟨s1, s2⟩ := qsrt_le a5
  have hx := a4 x (by simp)
  simp only [List.length_append, List.length_singleton] at a2
  simp only [e, List.dropLast_concat, List.getLast?_concat, Option.getD_some]
  refine ⟨⟨qlogR.2 ⟨a1, by simp only; omega, a3, fun y hy => a4 y (by simp [hy]), s1⟩, trivial⟩, ⟨qlogR.2 ⟨by simp only [List.length_take]; omega, by simp only; omega, fun w hw => a3 w (List.mem_of_mem_take hw), fun y hy => ?_, s1⟩, trivial⟩⟩
  have h1 := a4 y (by simp [hy])
  have h2 := s2 y hy
  simp only [List.length_take] at *
  omega

def cntE (c : List St) (n : Nat) : Nat := ((c.take n).filter fun s => s.d == 7).length
theorem cntE_succ {c : List St} {a : Nat} {x : St} (hx : c[a]? = some x) : cntE c (a + 1) = cntE c a + (if x.d = 7 then 1 else 0) := by
  unfold cntE
  rw [List.take_succ, hx]
  simp only [Option.toList_some, List.filter_append, List.length_append, List.filter_cons, List.filter_nil]
  by_cases h : x.d = 7 <;> simp [h]
theorem cntE_mono {c : List St} {a b : Nat} (h : a ≤ b) : cntE c a ≤ cntE c b := by
  unfold cntE
  have : c.take a = (c.take b).take a := by rw [List.take_take, Nat.min_eq_left h]
  rw [this]
  exact List.Sublist.length_le (List.Sublist.filter _ (List.take_sublist _ _))

def FrOk (c : List St) : Nat → List Int → List Fr → Prop
  | a, p, [] => WellP c a c.length 6
  | a, p, f :: fs => ∃ m e k : Nat, f.mid = m ∧ f.fin = e ∧ f.long = k ∧ p[k]? = some 1 ∧ k + 1 ≤ cntE c m ∧ f.regs.length = 8 ∧ WellP c a m (5 - fs.length) ∧ WellP c m e (6 - fs.length) ∧ FrOk c e (p.take k) fs

theorem FrOk.path {c : List St} {a : Nat} {p q : List Int} {fs : List Fr} (hp : p <+: q) (h : FrOk c a p fs) : FrOk c a q fs := by
  cases fs with
  | nil => exact h
  | cons f fs =>
    obtain ⟨m, e, k, h1, h2, h3, h4, h5, h6, h7, h8, h9⟩ := h
    obtain ⟨r, rfl⟩ := hp
    have hk : k < p.length := (List.getElem?_eq_some_iff.1 h4).1
    refine ⟨m, e, k, h1, h2, h3, ?_, h5, h6, h7, h8, ?_⟩
    · rw [List.getElem?_append_left hk]; exact h4
    · rw [List.take_append_of_le_length (by omega)]; exact h9

theorem FrOk.back {c : List St} (hm : ∀ x ∈ c, mayS x = true) {a b : Nat} {p : List Int} {fs : List Fr} (hw : WellP c a b (6 - fs.length)) (h : FrOk c b p fs) : FrOk c a p fs := by
  cases fs with
  | nil => exact WellP.trans hm (by simpa using hw) h
  | cons f fs =>
    obtain ⟨m, e, k, h1, h2, h3, h4, h5, h6, h7, h8, h9⟩ := h
    have e1 : (6 - ((f :: fs).length : Int)) = 5 - (fs.length : Int) := by simp only [List.length_cons]; omega
    rw [e1] at hw
    exact ⟨m, e, k, h1, h2, h3, h4, h5, h6, WellP.trans hm hw h7, h8, h9⟩

theorem FrOk.part {c : List St} {a : Nat} {p : List Int} {fs : List Fr} (h : FrOk c a p fs) (hl : a < c.length) (hs : ∀ f r, fs = f :: r → f.mid ≠ (a : Int)) :
    ∃ b, a < b ∧ WellP c a b (6 - fs.length) ∧ (∀ a', WellP c a' b (6 - fs.length) → FrOk c a' p fs) := by
  cases fs with
  | nil => exact ⟨c.length, hl, by simpa [FrOk] using h, fun a' h' => by simpa [FrOk] using h'⟩
  | cons f fs =>
    obtain ⟨m, e, k, h1, h2, h3, h4, h5, h6, h7, h8, h9⟩ := h
    have e1 : (6 - ((f :: fs).length : Int)) = 5 - (fs.length : Int) := by simp only [List.length_cons]; omega
    refine ⟨m, ?_, by rw [e1]; exact h7, fun a' h' => ⟨m, e, k, h1, h2, h3, h4, h5, h6, by rw [e1] at h'; exact h', h8, h9⟩⟩
    have := hs f fs rfl
    have := h7.1
    omega

theorem readsR_parts {l : List Rd} : readsR l = true ↔ (∀ r ∈ l, rightRd r = true) ∧ (l.map fun r => r.1).Nodup ∧ l.length ≤ 24 := by
  simp [readsR, and_assoc]
theorem readsR_snoc {l : List Rd} {r : Rd} (h : readsR l = true) (hr : rightRd r = true) (hn : l.find? (fun x => x.1 == r.1) = none) (hl : l.length < 24) : readsR (l ++ [r]) = true := by
  obtain ⟨h1, h2, h3⟩ := readsR_parts.1 h
  refine readsR_parts.2 ⟨fun x hx => ?_, ?_, by simp; omega⟩
  · rcases List.mem_append.1 hx with hx | hx
    · exact h1 x hx
    · rw [List.mem_singleton.1 hx]; exact hr
  · rw [List.map_append, List.nodup_append]
    refine ⟨h2, by simp, fun x hx y hy => ?_⟩
    simp at hy
    subst hy
    obtain ⟨z, hz, rfl⟩ := List.mem_map.1 hx
    rw [List.find?_eq_none] at hn
    have := hn z hz
    simpa using this

structure InvT (c : List St) (t : Ty) : Prop where
  pc0 : 0 ≤ t.pc
  pcl : t.pc ≤ c.length
  regs : t.regs.length = 8
  log : logR t.log = true
  rds : readsR t.reads = true
  rlen : (t.reads.length : Int) ≤ t.pc
  ver : ∀ x ∈ t.reads, x.2.1 ≤ t.snap
  marks : t.log.2.length = t.frames.length
  fr : FrOk c t.pc.toNat t.path t.frames.reverse
  pth : t.path.length ≤ cntE c t.pc.toNat
  alt : ∀ n ∈ t.path, n = 1 ∨ n = 2
structure InvS (c : List St) (t : Ty) : Prop extends InvT c t where
  run : t.kind = 0 → t.pc < c.length ∧ ∀ f r, t.frames.reverse = f :: r → f.mid ≠ t.pc

structure CodeOk (c : List St) : Prop where
  may : ∀ x ∈ c, mayS x = true
  len : c.length ≤ 24
  well : WellP c 0 c.length 6

theorem CodeOk.of {c : List St} (h : codeC c = 0) : CodeOk c := by
  unfold codeC at h
  split at h
  · simp at h
  · rename_i h1
    split at h
    · simp at h
    · rename_i h2
      split at h
      · simp at h
      · rename_i h3
        simp only [not_or, Nat.not_lt, List.any_eq_true, Bool.not_eq_true', not_exists, not_and, gt_iff_lt] at h1
        refine ⟨fun x hx => by have := h1.2 x hx; simpa using this, h1.1, ⟨Nat.zero_le _, Nat.le_refl _, ?_⟩⟩
        rw [List.take_length, List.drop_zero]
        exact ⟨by simpa using h2, by omega⟩

theorem reverse_split {α : Type} {l : List α} {f : α} {r : List α} (h : l.reverse = f :: r) : l.dropLast.reverse = r ∧ l.getLast? = some f ∧ l[l.length - 1]? = some f ∧ 0 < l.length ∧ l.dropLast.length + 1 = l.length := by
  have e : l = r.reverse ++ [f] := by rw [← List.reverse_reverse l, h, List.reverse_cons]
  subst e
  refine ⟨by simp, by simp, by simp, by simp, by simp⟩

theorem InvT.pop {c : List St} {t : Ty} (h : InvT c t) {f : Fr} {r : List Fr} (hf : t.frames.reverse = f :: r) (hm : f.mid = t.pc) : InvT c (popT t f) := by
  obtain ⟨s1, s2, s3, s4, s5⟩ := reverse_split hf
  have hfr := h.fr
  rw [hf] at hfr
  obtain ⟨m, e, k, h1, h2, h3, h4, h5, h6, h7, h8, h9⟩ := hfr
  have hne : t.log.2 ≠ [] := fun e => by have := h.marks; rw [e] at this; simp at this; omega
  obtain ⟨⟨q1, q2⟩, _⟩ := qback h.log hne
  have hme := h8.1
  have hel := h8.2.1
  have hpc := h.pc0
  have e1 : t.pc.toNat = m := by omega
  refine ⟨by simp only [popT, h2]; omega, by simp only [popT, h2]; omega, h.regs, q1, h.rds, ?_, h.ver, ?_, ?_, ?_, h.alt⟩
  · simp only [popT, h2]; have := h.rlen; omega
  · simp only [popT, q2, List.length_dropLast, h.marks]
  · simp only [popT, h2, Int.toNat_natCast, s1]
    exact h9.path (List.take_prefix _ _)
  · simp only [popT, h2, Int.toNat_natCast]
    have := h.pth
    rw [e1] at this
    exact Nat.le_trans this (cntE_mono hme)

theorem setF_ok {c : List St} : ∀ (n : Nat) (t : Ty), t.frames.length = n → InvT c t → InvT c (setF n t) ∧ (∀ f r, (setF n t).frames.reverse = f :: r → f.mid ≠ (setF n t).pc) ∧ (setF n t).kind = t.kind ∧ (setF n t).why = t.why ∧ (setF n t).snap = t.snap ∧ (setF n t).who = t.who ∧ (setF n t).reads = t.reads ∧ t.pc ≤ (setF n t).pc
  | 0, t, hn, h => by
    refine ⟨h, fun f r e => ?_, rfl, rfl, rfl, rfl, rfl, Int.le_refl _⟩
    simp only [setF] at e
    have := List.length_eq_zero_iff.1 hn
    rw [this] at e; simp at e
  | n + 1, t, hn, h => by
    obtain ⟨f, r, hf⟩ : ∃ f r, t.frames.reverse = f :: r := by
      cases hr : t.frames.reverse with
      | nil => have := congrArg List.length hr; simp at this; rw [this] at hn; simp at hn
      | cons f r => exact ⟨f, r, rfl⟩
    obtain ⟨s1, s2, s3, s4, s5⟩ := reverse_split hf
    rw [hn] at s3
    simp only [Nat.add_sub_cancel] at s3
    rw [setF, s3]
    simp only
    by_cases hm : f.mid = t.pc
    · rw [if_pos hm]
      have hp := h.pop hf hm
      obtain ⟨g1, g2, g3, g4, g5, g6, g7, g8⟩ := setF_ok n (popT t f) (by simp [popT]; omega) hp
      refine ⟨g1, g2, g3, g4, g5, g6, g7, ?_⟩
      have hfr := h.fr
      rw [hf] at hfr
      obtain ⟨m, e, k, h1, h2, h3, h4, h5, h6, h7, h8, h9⟩ := hfr
      have := h8.1
      have : t.pc ≤ (popT t f).pc := by simp only [popT, h2]; omega
      omega
    · rw [if_neg hm]
      refine ⟨h, fun f' r' e => ?_, rfl, rfl, rfl, rfl, rfl, Int.le_refl _⟩
      rw [hf] at e
      cases e
      exact hm

theorem setT_ok {c : List St} {t : Ty} (h : InvT c t) (hk : t.kind = 0) : InvS c (setT c.length t) ∧ (setT c.length t).snap = t.snap ∧ (setT c.length t).reads = t.reads ∧ t.pc ≤ (setT c.length t).pc ∧ ((setT c.length t).kind = 0 ∨ (setT c.length t).kind = 1) := by
  obtain ⟨g1, g2, g3, g4, g5, g6, g7, g8⟩ := setF_ok t.frames.length t rfl h
  unfold setT doneT
  split
  · rename_i hd
    exact ⟨⟨⟨g1.pc0, g1.pcl, g1.regs, g1.log, g1.rds, g1.rlen, g1.ver, g1.marks, g1.fr, g1.pth, g1.alt⟩, fun h => by simp at h⟩, g5, g7, g8, .inr rfl⟩
  · rename_i hd
    have := g1.pcl
    exact ⟨⟨g1, fun _ => ⟨by omega, g2⟩⟩, g5, g7, g8, .inl (by rw [g3, hk])⟩

theorem new_ok {c : List St} (hc : CodeOk c) (who snap : Int) : InvT c (newT who snap) := by
  refine ⟨by simp [newT, zeroT], by simp [newT, zeroT], by simp [newT], by show logR ([], []) = true; decide, by show readsR [] = true; decide, by simp [newT, zeroT], by simp [newT, zeroT], rfl, ?_, by simp [newT, zeroT], by simp [newT, zeroT]⟩
  simp only [newT, zeroT, List.reverse_nil, FrOk, Int.toNat_zero]
  exact hc.well

theorem heapGet_0 {h : List (Bool × Int)} {c : Int} (h0 : (heapGet h c).2 = 0) : heapR h = true ∧ thereB h c = true ∧ spanR (heapGet h c).1 = true ∧ 0 ≤ c ∧ c < h.length := by
  unfold heapGet at *
  split at h0
  · rename_i hr
    rw [if_pos hr]
    split at h0
    · rename_i ht
      rw [if_pos ht]
      obtain ⟨k, v, rfl, hk, hg⟩ := thereB_get ht
      refine ⟨hr, ht, ?_, by omega, by omega⟩
      simp only [Int.toNat_natCast, hg, Option.getD_some]
      simp only [heapR, Bool.and_eq_true, Bool.not_eq_true', List.any_eq_false] at hr
      have := hr.2 _ (List.mem_of_getElem? hg)
      simp [wrongC] at this
      exact this
    · simp at h0
  · simp at h0

theorem recR_in {r : List (Int × Int)} (h : tableR r = true) {c : Int} (hc : 0 ≤ c) : recR r c ∈ r ∧ 0 ≤ (recR r c).1 ∧ (recR r c).1 ≤ 2147483647 ∧ 0 ≤ (recR r c).2 ∧ (recR r c).2 ≤ 8 ∧ 0 ≤ c.tmod r.length ∧ c.tmod r.length < r.length := by
  simp only [tableR, Bool.and_eq_true, decide_eq_true_eq, Bool.not_eq_true', List.any_eq_false] at h
  obtain ⟨⟨h1, h2⟩, h3⟩ := h
  have hm0 : 0 ≤ c.tmod r.length := Int.tmod_nonneg _ hc
  have hm1 : c.tmod r.length < r.length := Int.tmod_lt_of_pos _ (by omega)
  have hlt : (c.tmod r.length).toNat < r.length := by omega
  have e : recR r c = r[(c.tmod r.length).toNat] := by unfold recR; rw [List.getElem?_eq_getElem hlt]; rfl
  have hin : recR r c ∈ r := by rw [e]; exact List.getElem_mem hlt
  have := h3 _ hin
  simp only [wrongR, Bool.or_eq_true, decide_eq_true_eq, not_or, Int.not_lt] at this
  exact ⟨hin, by omega, by omega, by omega, by omega, hm0, hm1⟩

theorem InvS.doT {c : List St} (hc : CodeOk c) {t : Ty} (h : InvS c t) {h' : List (Bool × Int)} {r : List (Int × Int)} (hmay : mayT t h' r = true) {s : St} (hs : c[t.pc.toNat]? = some s) :
    InvT c (doT t s h' r) ∧ (doT t s h' r).snap = t.snap ∧ ((doT t s h' r).kind = 0 → t.pc < (doT t s h' r).pc) ∧ t.pc ≤ (doT t s h' r).pc := by
  simp only [mayT, Bool.and_eq_true, decide_eq_true_eq] at hmay
  obtain ⟨⟨hh, hr⟩, hk⟩ := hmay
  obtain ⟨hlt, hst⟩ := h.run hk
  have hpc0 := h.pc0
  have ea : ((t.pc.toNat : Nat) : Int) = t.pc := by omega
  obtain ⟨b, hb1, hb2, hb3⟩ := h.fr.part (by omega) (fun f r e => by rw [ea]; exact hst f r e)
  obtain ⟨w1, w2, w3⟩ := hb2.step hc.may hb1 hs
  have hms := hc.may s (List.mem_of_getElem? hs)
  obtain ⟨g4, g7⟩ := mayS_rng hms
  have en : (t.pc + 1).toNat = t.pc.toNat + 1 := by omega
  have hrl := h.rlen
  have hcnt : cntE c t.pc.toNat ≤ cntE c (t.pc.toNat + 1) := cntE_mono (by omega)
  have hpth := h.pth
  have fr1 : FrOk c (t.pc + 1).toNat t.path t.frames.reverse := by rw [en]; exact hb3 _ w1
  have hend : ∀ k w, InvT c (endT t k w) := fun k w => ⟨h.pc0, h.pcl, h.regs, h.log, h.rds, h.rlen, h.ver, h.marks, h.fr, h.pth, h.alt⟩
  have hput : ∀ a v, InvT c (putT t a v) := fun a v => ⟨by simp only [putT]; omega, by simp only [putT]; omega, by simp [putT, h.regs], h.log, h.rds, by simp only [putT]; omega, h.ver, h.marks, fr1, by simp only [putT, en]; omega, h.alt⟩
  unfold AM.doT
  split
  · -- load
    rename_i h1
    unfold loadT
    split
    · exact ⟨hend _ _, rfl, by simp [endT], Int.le_refl _⟩
    · rename_i hg
      simp only [ne_eq, Decidable.not_not] at hg
      split
      · exact ⟨hput _ _, rfl, fun _ => by simp only [putT]; omega, by simp only [putT]; omega⟩
      · split
        · exact ⟨hput _ _, rfl, fun _ => by simp only [putT]; omega, by simp only [putT]; omega⟩
        · rename_i hfn
          split
          · exact ⟨hend _ _, rfl, by simp [endT], Int.le_refl _⟩
          · rename_i hno
            obtain ⟨z1, z2, z3, z4, z5⟩ := heapGet_0 hg
            obtain ⟨y1, y2, y3, y4, y5, _⟩ := recR_in hr z4
            refine ⟨⟨by simp only [putT]; omega, by simp only [putT]; omega, by simp [putT, h.regs], h.log, ?_, by simp [putT]; omega, ?_, h.marks, fr1, by simp only [putT, en]; omega, h.alt⟩, rfl, fun _ => by simp only [putT]; omega, by simp only [putT]; omega⟩
            · refine readsR_snoc h.rds ?_ hfn ?_
              · simp only [rightRd, tickR, Bool.and_eq_true, decide_eq_true_eq]
                exact ⟨⟨z4, y2, y3⟩, z3⟩
              · have := hc.len; omega
            · intro x hx
              simp only [putT] at hx ⊢
              rcases List.mem_append.1 hx with hx | hx
              · exact h.ver x hx
              · rw [List.mem_singleton.1 hx]
                simp only
                omega
  · split
    · exact ⟨hput _ _, rfl, fun _ => by simp only [putT]; omega, by simp only [putT]; omega⟩
    · split
      · unfold storeT
        split
        · exact ⟨hend _ _, rfl, by simp [endT], Int.le_refl _⟩
        · obtain ⟨q1, q2⟩ := qput (w := (s.a, tellT t h' s.t)) h.log
          exact ⟨⟨by simp only; omega, by simp only; omega, h.regs, q1, h.rds, by simp only; omega, h.ver, by simp only [q2]; exact h.marks, fr1, by simp only [en]; omega, h.alt⟩, rfl, fun _ => by simp only; omega, by simp only; omega⟩
      · split
        · rename_i h4
          have q4 := g4 h4
          have q5 := w2 h4
          unfold skipT
          have hbl := q5.1
          have hbl2 := q5.2.1
          split
          · have es : (t.pc + 1 + s.a).toNat = t.pc.toNat + 1 + s.a.toNat := by omega
            refine ⟨⟨by simp only; omega, by simp only; omega, h.regs, h.log, h.rds, by simp only; omega, h.ver, h.marks, ?_, ?_, h.alt⟩, rfl, fun _ => by simp only; omega, by simp only; omega⟩
            · simp only [es]; exact hb3 _ q5
            · simp only [es]; have : cntE c t.pc.toNat ≤ cntE c (t.pc.toNat + 1 + s.a.toNat) := cntE_mono (by omega)
              omega
          · exact ⟨⟨by simp only; omega, by simp only; omega, h.regs, h.log, h.rds, by simp only; omega, h.ver, h.marks, fr1, by simp only [en]; omega, h.alt⟩, rfl, fun _ => by simp only; omega, by simp only; omega⟩
        · split
          · unfold agT
            cases hrv : t.frames.reverse with
            | nil =>
              have : t.frames = [] := by simpa using hrv
              rw [this]
              exact ⟨hend _ _, rfl, by simp [endT], Int.le_refl _⟩
            | cons f fs =>
              obtain ⟨s1, s2, s3, s4, s5⟩ := reverse_split hrv
              rw [s2]
              simp only
              have hfr := h.fr
              rw [hrv] at hfr
              obtain ⟨m, e, k, h1, h2, h3, h4, h5, h6, h7, h8, h9⟩ := hfr
              have hne : t.log.2 ≠ [] := fun e => by have := h.marks; rw [e] at this; simp at this; omega
              obtain ⟨_, q1, q2⟩ := qback h.log hne
              have hme := h7.1
              have hml := h7.2.1
              have hne2 := hst f fs hrv
              have hk : k < t.path.length := (List.getElem?_eq_some_iff.1 h4).1
              refine ⟨⟨by simp only [h1]; omega, by simp only [h1]; omega, h6, q1, h.rds, by simp only [h1]; omega, h.ver, by simp only [q2, List.length_dropLast, h.marks], ?_, ?_, ?_⟩, by trivial, fun _ => by simp only [h1]; omega, by simp only [h1]; omega⟩
              · simp only [h1, h3, Int.toNat_natCast, s1]
                exact (FrOk.back hc.may h8 h9).path (List.prefix_append _ _)
              · simp only [h1, h3, Int.toNat_natCast, List.length_append, List.length_take, List.length_singleton]
                omega
              · intro n hn
                simp only at hn
                rcases List.mem_append.1 hn with hn | hn
                · exact h.alt n (List.mem_of_mem_take hn)
                · rw [List.mem_singleton.1 hn]; exact .inr rfl
          · split
            · exact ⟨hend _ _, rfl, by simp [endT], Int.le_refl _⟩
            · rename_i n1 n2 n3 n4 n5 n6
              have h7 : s.d = 7 := by
                unfold mayS at hms
                rw [if_neg n1, if_neg n2, if_neg n3, if_neg n4, if_neg n5, if_neg n6] at hms
                simp at hms
                omega
              obtain ⟨v1, v2, v3⟩ := w3 h7
              obtain ⟨a1, a2, b1, b2⟩ := g7 h7
              have hd0 := v1.2.2.pos (fun x hx => hc.may x (List.mem_of_mem_take (List.mem_of_mem_drop hx)))
              simp only [List.length_reverse] at hd0 v1 v2 v3
              have hmk := h.marks
              obtain ⟨q1, q2⟩ := qmark h.log (by omega)
              have hcs : cntE c (t.pc.toNat + 1) = cntE c t.pc.toNat + 1 := by rw [cntE_succ hs, if_pos h7]
              have em : (t.pc + 1 + s.a) = ((t.pc.toNat + 1 + s.a.toNat : Nat) : Int) := by omega
              have ef : (t.pc + 1 + s.a + s.b) = ((t.pc.toNat + 1 + s.a.toNat + s.b.toNat : Nat) : Int) := by omega
              unfold eiT
              refine ⟨⟨by simp only; omega, by simp only; omega, h.regs, q1, h.rds, by simp only; omega, h.ver, by simp only [q2, List.length_append, List.length_singleton, h.marks], ?_, ?_, ?_⟩, rfl, fun _ => by simp only; omega, by simp only; omega⟩
              · simp only [List.reverse_append, List.reverse_cons, List.reverse_nil, List.nil_append, List.cons_append, en]
                refine ⟨t.pc.toNat + 1 + s.a.toNat, t.pc.toNat + 1 + s.a.toNat + s.b.toNat, t.path.length, em, ef, rfl, by simp, ?_, h.regs, ?_, ?_, ?_⟩
                · have : cntE c (t.pc.toNat + 1) ≤ cntE c (t.pc.toNat + 1 + s.a.toNat) := cntE_mono (by omega)
                  omega
                · simp only [List.length_reverse]; exact v1.mono (by omega)
                · simp only [List.length_reverse]; exact v2.mono (by omega)
                · rw [List.take_append_of_le_length (Nat.le_refl _), List.take_length]
                  exact hb3 _ (by simp only [List.length_reverse]; exact v3)
              · simp only [en, List.length_append, List.length_singleton]; omega
              · intro n hn
                simp only at hn
                rcases List.mem_append.1 hn with hn | hn
                · exact h.alt n hn
                · rw [List.mem_singleton.1 hn]; exact .inl rfl

theorem InvS.stp {c : List St} (hc : CodeOk c) {t : Ty} (h : InvS c t) {h' : List (Bool × Int)} {r : List (Int × Int)} (hmay : mayT t h' r = true) :
    InvS c (stpT t c h' r) ∧ (stpT t c h' r).snap = t.snap ∧ ((stpT t c h' r).kind = 0 → t.pc < (stpT t c h' r).pc) ∧ t.pc ≤ (stpT t c h' r).pc := by
  have hk : t.kind = 0 := by simp only [mayT, Bool.and_eq_true, decide_eq_true_eq] at hmay; exact hmay.2
  obtain ⟨hlt, hst⟩ := h.run hk
  have hpc0 := h.pc0
  have hl : t.pc.toNat < c.length := by omega
  have hs : c[t.pc.toNat]? = some c[t.pc.toNat] := List.getElem?_eq_getElem hl
  obtain ⟨g1, g2, g3, g4⟩ := h.doT hc hmay hs
  unfold stpT
  rw [hs]
  simp only
  split
  · rename_i hne
    exact ⟨⟨g1, fun e => absurd e hne⟩, g2, fun e => absurd e hne, g4⟩
  · rename_i he
    simp only [ne_eq, Decidable.not_not] at he
    obtain ⟨k1, k2, k3, k4, k5⟩ := setT_ok g1 he
    have := g3 he
    exact ⟨k1, by rw [k2, g2], fun _ => by omega, by omega⟩

theorem InvS.step {c : List St} (hc : CodeOk c) {t : Ty} (h : InvS c t) (h' : List (Bool × Int)) (r : List (Int × Int)) : InvS c (stepT t c h' r) ∧ (stepT t c h' r).snap = t.snap := by
  unfold stepT
  split
  · rename_i hm
    obtain ⟨k1, k2, _⟩ := h.stp hc hm
    exact ⟨k1, k2⟩
  · exact ⟨h, rfl⟩

theorem InvT.lens {c : List St} (hc : CodeOk c) {t : Ty} (h : InvT c t) : t.regs.length = 8 ∧ t.path.length ≤ 24 ∧ t.reads.length ≤ 24 ∧ t.log.1.length ≤ 24 ∧ t.log.2.length ≤ 6 ∧ t.frames.length ≤ 6 ∧ t.pc ≤ 24 ∧ 0 ≤ t.pc := by
  obtain ⟨a1, a2, a3, a4, a5⟩ := qlogR.1 h.log
  have := h.marks
  have h1 := h.pth
  have h2 : cntE c t.pc.toNat ≤ c.length := by
    unfold cntE
    exact Nat.le_trans (List.length_filter_le _ _) (by simp; omega)
  have := hc.len
  have := (readsR_parts.1 h.rds).2.2
  have := h.pcl
  have := h.pc0
  have := h.regs
  omega
end Go.Proofs.YtjhfpabldidlgaaGreat.AM

set_option linter.all false
namespace Go.Proofs.YtjhfpabldidlgaaGreat.AM
open Go Go.RowKit

section
variable {P : Program} {E : Env} {n m : Nat} {φ φ' : Nat → Option Loc} {S S' : Nat → Prop} {H H' : Heap} {w : World} {T T' : Tmps} {ρ : Nat → Nat}

theorem Weak.renD (ρ : Nat → Nat) (hT : ∀ t, Ren ρ H' (tget T' t) (tget T t)) (hB : ∀ i, hget H' i ≠ .unborn → RenB ρ H H' i) (hU : ∀ i, hget H' i = .unborn → hget H (ρ i) = .unborn)
    (hinj : ∀ i j, hget H' i ≠ .unborn → hget H' j ≠ .unborn → ρ i = ρ j → hget H (ρ i) ≠ .unborn → i = j)
    (hm : ∀ i, i < m → hget H' i = .dead ∨ (ρ i = i ∧ (hget H i ≠ .unborn → hget H' i ≠ .unborn))) : Weak m T H T' H' := by
  intro C φ S w a hH hT0
  refine ⟨φren φ ρ H', S, Weak.ren_heap hH hB hU hinj, fun t => RV.renR hB hU (hT t) (hT0 t), ⟨.refl _ _, Nat.le_refl _, fun id h hu => ?_⟩⟩
  rcases hm id h with hd | ⟨h1, h2⟩
  · exact .inl hd
  rcases hB id (h2 hu) with ⟨fz, cells, cells', g1, g2, g3⟩ | ⟨fz, sz, els, g1, g2⟩ | ⟨sz, g1, g2⟩ | g1
  · rw [h1] at g2
    right
    exact ⟨by rw [g1, g2]; simp [SameShape, g3.length], by simp [φren, g1, h1]⟩
  · rw [h1] at g2
    right
    exact ⟨by rw [g1, g2]; simp [SameShape], by simp [φren, g1, h1]⟩
  · rw [h1] at g2; exact absurd g2 hu
  · exact .inl g1

theorem Weak.pickD (l : List Nat) (hnd : l.Nodup) (hlen : l.length = H'.length) (hT : ∀ q ∈ T', Ren (pickρ l (H.length + H'.length)) H' q.2 (tget T q.1)) (hB : ∀ i, i < H'.length → RenB (pickρ l (H.length + H'.length)) H H' i)
    (hml : m ≤ l.length) (hm : ∀ i, i < m → hget H' i = .dead ∨ l[i]? = some i) : Weak m T H T' H' := by
  have hborn : ∀ i, i < H'.length → hget H' i ≠ .unborn := fun i hi e => by
    rcases hB i hi with ⟨_, _, _, h, _⟩ | ⟨_, _, _, h, _⟩ | ⟨_, h, _⟩ | h <;> rw [e] at h <;> cases h
  have hin : ∀ i, i < H'.length → ∃ x, l[i]? = some x ∧ pickρ l (H.length + H'.length) i = x := fun i hi => by
    have : i < l.length := by omega
    exact ⟨l[i], List.getElem?_eq_getElem this, by simp [pickρ, List.getElem?_eq_getElem this]⟩
  have hno : ∀ i, hget H' i ≠ .unborn → i < H'.length := fun i h => Classical.byContradiction fun hn => h (hget_length H' i (by omega))
  refine Weak.renD (pickρ l (H.length + H'.length)) (fun t => ?_) (fun i hu => hB i (hno i hu)) (fun i hu => ?_) (fun i j hi hj he hu => ?_) (fun i hi => ?_)
  · rcases tget_mem (T' := T') (t := t) with h | ⟨q, h1, rfl, h3⟩
    · rw [h]; exact .undef _
    · rw [h3]; exact hT q h1
  · have : H'.length ≤ i := Classical.byContradiction fun hn => hborn i (by omega) hu
    have h2 : pickρ l (H.length + H'.length) i = i + (H.length + H'.length) := by simp [pickρ, List.getElem?_eq_none (by omega : l.length ≤ i)]
    rw [h2]; exact hget_length H _ (by omega)
  · obtain ⟨x, h1, h2⟩ := hin i (hno i hi)
    obtain ⟨y, h3, h4⟩ := hin j (hno j hj)
    rw [h2, h4] at he
    subst he
    have a1 := (List.getElem?_eq_some_iff.1 h1)
    have a2 := (List.getElem?_eq_some_iff.1 h3)
    exact (List.getElem_inj hnd).1 (a1.2.trans a2.2.symm)
  · rcases hm i hi with h | h
    · exact .inl h
    · exact .inr ⟨by simp [pickρ, h], fun _ => hborn i (by omega)⟩

theorem RSpec.pre {f : Nat} {vs vs' : List V} {H1 : Heap} {r : V} (h : RSpec P f vs' H' r H1) (hl : vs'.length = vs.length) (hW : Weak H.length (initV 0 vs) H (initV 0 vs') H') : RSpec P f vs H r H1 := by
  refine ⟨h.1, fun C φ S w cs hH hv => ?_⟩
  have hlen := hv.len
  obtain ⟨φ1, S1, g1, g2, g3⟩ := hW C φ S w { tmps := cs.toArray, defers := [] } hH (fun t => by
    rw [initV_get]
    simp only [Nat.zero_le, if_true, Nat.sub_zero]
    cases hx : vs[t]? with
    | none => exact .d _ _ (.undef _)
    | some v =>
      have ht : t < cs.length := by have := (List.getElem?_eq_some_iff.1 hx).1; omega
      have := hv.at_ t v cs[t] hx (List.getElem?_eq_getElem ht)
      simpa [Array.getD_eq_getD_getElem?, ht] using this)
  have hv1 : RVs φ1 S1 H' w vs' cs := ⟨by omega, fun i v c hi hc => by
    have := g2 i
    rw [initV_get] at this
    simp only [Nat.zero_le, if_true, Nat.sub_zero, hi] at this
    have hlt := (List.getElem?_eq_some_iff.1 hc).1
    have e : cs[i] = c := (List.getElem?_eq_some_iff.1 hc).2
    simpa [Array.getD_eq_getD_getElem?, hlt, e] using this⟩
  refine (h.2 C φ1 S1 w cs g1 hv1).mono ?_
  rintro e w' ⟨c, φ2, S2, rfl, h1, h2, h3, h4⟩
  have ht := g3.trans (h3.toM (m := H.length) h4.size)
  refine ⟨c, φ2, S2, rfl, h1, h2, ⟨ht.keepS, fun id hu => ht.keepH id (Classical.byContradiction fun hn => hu (hget_length H id (by omega))) hu⟩, h4⟩

theorem RSpec.congr {f : Nat} {vs : List V} {r : V} {H1 H2 : Heap} (h : RSpec P f vs H r H1) (hH : ∀ id, hget H2 id = hget H1 id) : RSpec P f vs H r H2 := by
  refine ⟨h.1, fun C φ S w cs hH0 hv => (h.2 C φ S w cs hH0 hv).mono ?_⟩
  rintro e w' ⟨c, φ', S', rfl, h1, h2, h3, h4⟩
  exact ⟨c, φ', S', rfl, h1.congr hH, h2.congr hH, ⟨h3.keepS, fun id hu => by rw [hH]; exact h3.keepH id hu⟩, h4⟩

theorem dcall_ref0 {f : Nat} {vs vs0 : List V} {H0 : Heap} {r r0 : V} {nid : Nat} {K : V → Blk → Prop} (l : List Nat) (h : RSpec P f vs0 H0 r0 H0) (hvs : ∀ k, renL (frρ l k) vs0 = vs) (hr : ∀ k, r0.ren (frρ l k) = r) (hnd : l.Nodup) (hlen : l.length = H0.length)
    (hB : ∀ j, j < H0.length → hget H0 j ≠ .unborn ∧ hget H (frρ l 0 j) ≠ .unborn ∧ ∀ k, hget H (frρ l 0 j) = (hget H0 j).ren (frρ l k))
    (hK : K r .dead) : dcall P f vs H nid K := by
  refine ⟨_, _, fun H' hm hu => ?_, hK⟩
  have hl0 : ∀ j k, j < H0.length → frρ l k j = frρ l 0 j := fun j k hj => by rw [frρ_lt (by omega), frρ_lt (by omega)]
  have hB' : ∀ j, j < H0.length → hget H' (frρ l 0 j) = hget H (frρ l 0 j) := fun j hj => (hm _).resolve_left (hB j hj).2.1
  have hlt : ∀ i ∈ l, i < H'.length := fun i hi => by
    obtain ⟨j, hj, rfl⟩ := List.getElem_of_mem hi
    refine Classical.byContradiction fun hn => ?_
    have h1 := hB' j (by omega)
    rw [frρ_lt hj, hget_length H' _ (by omega)] at h1
    have := (hB j (by omega)).2.1
    rw [frρ_lt hj] at this
    exact this h1.symm
  have hfr := RSpec.frame (H := H') h l hnd hlen (Nat.le_refl _) hlt (fun j hj => ⟨(hB j hj).1, by rw [hl0 j _ hj, hB' j hj]; exact (hB j hj).2.2 _⟩)
  rw [hvs, hr] at hfr
  refine (hfr.congr (H2 := H') (fun id => ?_)).bury hu
  unfold frameH
  have hd : H0.drop l.length = [] := List.drop_eq_nil_of_le (by omega)
  rw [hd, List.map_nil, List.append_nil]
  by_cases hi : id ∈ l
  · obtain ⟨j, hj, rfl⟩ := List.getElem_of_mem hi
    rw [putL_at l _ H' _ j ((H0[j]'(by omega)).ren (frρ l H'.length)) hnd (List.getElem?_eq_getElem hj) (by simp [show j < H0.length by omega])]
    have h1 := (hB j (by omega)).2.2 H'.length
    have h2 := hB' j (by omega)
    rw [frρ_lt hj] at h1 h2
    rw [h2, h1, hget_getElem H0 j, List.getElem?_eq_getElem (show j < H0.length by omega)]; rfl
  · rw [putL_not l _ H' id hi]

end
end Go.Proofs.YtjhfpabldidlgaaGreat.AM

set_option linter.all false
namespace Go.Proofs.YtjhfpabldidlgaaGreat.AM
open Go Go.RowKit

def sealF (H : Heap) (ids : List Nat) : V → V
  | .own id off len => if id ∈ ids then (match hget H id with | .dat _ _ els => .d (.vec ((els.drop off).take len)) | _ => .own id off len) else .own id off len
  | .nils => .d (.vec [])
  | .ptr id i j => if id ∈ ids then (match xport H 40 (.ptr id i j) with | some d => if tids H 40 (.ptr id i j) = [id] then .d d else .ptr id i j | none => .ptr id i j) else .ptr id i j
  | v => v

def sealB (H : Heap) (ids : List Nat) : Blk → Blk
  | .box fz cells => .box fz (cells.map (sealF H ids))
  | b => b

def sealH (H : Heap) (ids : List Nat) : Heap := (freeze H ids).map (sealB H ids)

theorem hget_map (f : Blk → Blk) (hf : f .unborn = .unborn) : ∀ (H : Heap) (i : Nat), hget (H.map f) i = f (hget H i)
  | [], i => by simp [hget, hf]
  | b :: r, 0 => by simp [hget]
  | b :: r, i + 1 => by simpa [hget] using hget_map f hf r i

section
variable {m : Nat} {φ : Nat → Option Loc} {S S1 : Nat → Prop} {H H' : Heap} {C : Ctx} {w : World} {T T' : Tmps}

theorem sealF_rel (ids : List Nat) (hH : HRel C φ S H w) (hS : ∀ B, S B → S1 B) (ht : ∀ id ∈ ids, ∀ L, φ id = some L → S1 L.blk) (hst : Step φ S H w φ S1 H' w) {v : V} {c : Value} (h : RV φ S H w v c) : RV φ S1 H' w (sealF H ids v) c := by
  unfold sealF
  split
  · rename_i id off len
    split
    · rename_i hid
      split
      · rename_i fz sz els hg
        have hx : xport H 40 (.own id off len) = some (.vec ((els.drop off).take len)) := by simp [xport, hg]
        exact .d _ _ (xport_rel hH hS 40 _ c _ (fun i hi L hL => ht i (by simp [tids] at hi; rw [hi]; exact hid) L hL) h hx)
      · exact h.step hst
    · exact h.step hst
  · have hx : xport H 40 (.nils) = some (.vec []) := by simp [xport]
    exact .d _ _ (xport_rel hH hS 40 _ c _ (fun i hi L hL => by simp [tids] at hi) h hx)
  · rename_i id i j
    split
    · rename_i hid
      split
      · rename_i d hx
        split
        · rename_i htid
          exact .d _ _ (xport_rel hH hS 40 _ c _ (fun k hk L hL => ht k (by rw [htid] at hk; simp at hk; rw [hk]; exact hid) L hL) h hx)
        · exact h.step hst
      · exact h.step hst
    · exact h.step hst
  · exact h.step hst

theorem Weak.sealed (ids : List Nat) (hT : ∀ q ∈ T', q.2 = sealF H ids (tget T q.1)) : Weak m T H T' (sealH H ids) := by
  intro C φ S w a hH hT0
  obtain ⟨S1, p1, p2, p3⟩ := HRel.freeze hH ids hH
  have hg : ∀ i, hget (sealH H ids) i = sealB H ids (hget (freeze H ids) i) := fun i => hget_map _ rfl _ i
  have hst2 : Step φ S1 (AM.freeze H ids) w φ S1 (sealH H ids) w := ⟨.refl _ _, fun i hi => by
    rw [hg]
    cases hb : hget (AM.freeze H ids) i with
    | unborn => exact absurd hb hi
    | dead => exact .inl rfl
    | box fz cells => exact .inr ⟨by simp [sealB, SameShape], rfl⟩
    | dat fz sz els => exact .inr ⟨by simp [sealB, SameShape], rfl⟩⟩
  have hst := p2.trans hst2 (Nat.le_refl _) (Nat.le_refl _)
  have hS : ∀ B, S B → S1 B := fun B hB => (p2.keepS B hB (hH.low B hB)).1
  have key : ∀ v c, RV φ S H w v c → RV φ S1 (sealH H ids) w (sealF H ids v) c := fun v c h => sealF_rel ids hH hS p3 hst h
  have hfz : ∀ i fz cells, hget (AM.freeze H ids) i = .box fz cells → ∃ fz0, hget H i = .box fz0 cells := by
    intro i fz cells
    have : ∀ (l : List Nat) (H : Heap), hget (AM.freeze H l) i = .box fz cells → ∃ fz0, hget H i = .box fz0 cells := by
      intro l
      induction l with
      | nil => intro H h; exact ⟨fz, h⟩
      | cons id r ih =>
        intro H h
        obtain ⟨fz0, h0⟩ := ih _ h
        rw [hget_hput] at h0
        split at h0
        · rename_i e
          subst e
          cases hb : hget H i <;> rw [hb] at h0 <;> simp [Blk.ice] at h0
          exact ⟨_, by rw [h0.2]⟩
        · exact ⟨fz0, h0⟩
    exact this ids H
  refine ⟨φ, S1, ⟨p1.n0, p1.own, p1.vis, p1.inj, fun i => ?_, p1.low⟩, fun t => ?_, hst.toM (Nat.le_refl _)⟩
  · rw [hg]
    have hb := p1.blk i
    cases hgi : hget (AM.freeze H ids) i with
    | unborn => rw [hgi] at hb; exact hb
    | dead => rw [hgi] at hb; exact hb
    | box fz cells =>
      rw [hgi] at hb
      obtain ⟨fz0, h0⟩ := hfz i fz cells hgi
      have hb0 := hH.blk i
      rw [h0] at hb0
      obtain ⟨L, cs, t, h1, h2, h3, h4, h5, h6⟩ := hb
      obtain ⟨L', cs', t', k1, k2, k3, k4, k5, k6⟩ := hb0
      rw [h1] at k1
      cases k1
      have hcs : cs = cs' := by
        have := h3.heap.symm.trans k3.heap
        simp at this
        exact this.1
      subst hcs
      refine ⟨L, cs, t, h1, h2, h3, by simpa using h4, fun k v c hk hc => ?_, h6⟩
      simp only [List.getElem?_map, Option.map_eq_some_iff] at hk
      obtain ⟨v0, hv0, rfl⟩ := hk
      exact key v0 c (k5 k v0 c hv0 hc)
    | dat fz sz els =>
      rw [hgi] at hb
      rcases hb with h | ⟨L, cs, t, h1, h2, h3, h4, h5, h6⟩
      · exact .inl h
      · exact .inr ⟨L, cs, t, h1, h2, h3, h4, h5, h6⟩
  · rcases tget_mem (T' := T') (t := t) with h | ⟨q, h1, rfl, h3⟩
    · rw [h]; exact .d _ _ (.undef _)
    · rw [h3, hT q h1]; exact key _ _ (hT0 _)

theorem Weak.trans' {m : Nat} {T1 T2 T3 : Tmps} {H1 H2 H3 : Heap} (h : Weak m T1 H1 T2 H2) (h' : Weak m T2 H2 T3 H3) : Weak m T1 H1 T3 H3 := by
  intro C φ S w a hH hT
  obtain ⟨φ1, S1, a1, a2, a3⟩ := h C φ S w a hH hT
  obtain ⟨φ2, S2, b1, b2, b3⟩ := h' C φ1 S1 w a a1 a2
  exact ⟨φ2, S2, b1, b2, a3.trans b3⟩

theorem Weak.close (ids : List Nat) (n : Nat) (hmn : m ≤ n) (hH : (sealH H ids).take n = H') (hT : ∀ q ∈ T', q.2 = sealF H ids (tget T q.1) ∧ V.lower n q.2 = true) (hB : ∀ b ∈ H', Blk.lower n b = true) : Weak m T H T' H' := by
  refine Weak.trans' (Weak.sealed (T' := T'.map fun q => (q.1, sealF H ids (tget T q.1))) ids (fun q hq => ?_)) (Weak.trimsM n hmn hH (fun q hq => ⟨?_, (hT q hq).2⟩) hB)
  · obtain ⟨q0, _, rfl⟩ := List.mem_map.1 hq
    rfl
  · rw [(hT q hq).1]
    clear hT
    induction T' with
    | nil => simp at hq
    | cons p r ih =>
      simp only [List.map_cons, tget]
      by_cases e : q.1 = p.1
      · rw [if_pos e, e]
      · rw [if_neg e]
        rcases List.mem_cons.1 hq with rfl | hq
        · exact absurd rfl e
        · exact ih hq
end

section
variable {P : Program} {E : Env}
theorem CSpec.of_snd {f : Nat} {fn : Func} {body : Code} {args : List D} {r : D} (hE : EOk P E) (hmix : P.follows .mixedOrders = true) (hf : P.funcs[f]? = some fn) (hb : fn.body = some body) (hcall : Callable P f) (hn : args.length ≤ fn.ntmps)
    (h : Snd P E fn.ntmps 0 body (initT 0 args) [] (Fin E fn.results.toList r)) : CSpec P f args r := by
  refine ⟨hcall, fun S0 w cs hS0 hlen hrel => ?_⟩
  have hsz : (cs.toArray ++ Array.replicate (fn.ntmps - cs.toArray.size) undef).size = fn.ntmps := by simp; omega
  have hst : Stands ⟨w.heap.size, fun _ => False, S0⟩ fn.ntmps (initT 0 args) [] (fun _ => none) S0 { tmps := cs.toArray ++ Array.replicate (fn.ntmps - cs.toArray.size) undef, defers := [] } w := by
    refine ⟨⟨Nat.le_refl _, (fun id L h => by cases h), (fun B hB => .inl hB), (fun i j L L' h => by cases h), (fun id => rfl), hS0⟩, fun t => ?_, hsz, rfl⟩
    rw [initT_get]
    simp only [Nat.zero_le, if_true, Nat.sub_zero]
    by_cases ht : t < args.length
    · have hc : t < cs.length := by omega
      rw [List.getElem?_eq_getElem ht]
      have : (cs.toArray ++ Array.replicate (fn.ntmps - cs.toArray.size) undef).getD t undef = cs[t] := by
        simp [Array.getElem?_append, hc]
      rw [this]
      exact .d _ _ (hrel t _ _ (List.getElem?_eq_getElem ht) (List.getElem?_eq_getElem hc))
    · rw [List.getElem?_eq_none (by omega)]
      exact .d _ _ (.undef _)
  refine calls_of_wp hf hb (wp_mono (h _ _ _ _ _ hst) ?_)
  rintro e a' w' ⟨e', T', H', φ', S', hq, rfl, hst', hs', hk'⟩
  have fin : (∃ v, resOf E T' H' fn.results.toList = some v ∧ xport H' 40 v = some r) → a'.defers = [] ∧ ∃ v, (results fn a'.tmps).run P w' = .ok v w' ∧ ∃ c S', Ending.returned v = .returned c ∧ RD S' w' r c ∧ (∀ B, S' B → (S0 B ∨ w.heap.size ≤ B) ∧ B < w'.heap.size) ∧ Kp ⟨w.heap.size, fun _ => False, S0⟩ w w' := by
    rintro ⟨v, hv, hx⟩
    obtain ⟨c, hrun, hc⟩ := resOf_sound hE hst' hv
    refine ⟨hst'.defers, c, hrun, c, fun B => (S0 B ∨ w.heap.size ≤ B) ∧ B < w'.heap.size, rfl, ?_, fun B hB => hB, hk'⟩
    have hv1 : ∀ B, S' B → S0 B ∨ w.heap.size ≤ B := fun B hB => by
      rcases hst'.heap.vis B hB with h | h | h
      · exact .inl h
      · exact h.elim
      · exact .inr h
    have hv2 : ∀ i L, φ' i = some L → S0 L.blk ∨ w.heap.size ≤ L.blk := fun i L hL => by
      rcases hst'.heap.own i L hL with h | h
      · exact h.elim
      · exact .inr h
    exact xport_rel hst'.heap (fun B hB => ⟨hv1 B hB, hst'.heap.low B hB⟩) 40 v c r (fun i _ L hL => ⟨hv2 i L hL, hst'.heap.lt hL⟩) hc hx
  cases e' with
  | normal => exact fin hq
  | ret => exact fin hq
  | exit id => exact hq.elim

end
end Go.Proofs.YtjhfpabldidlgaaGreat.AM

set_option linter.all false
set_option maxRecDepth 100000
set_option maxHeartbeats 4000000
namespace Go.Proofs.YtjhfpabldidlgaaGreat.AM
open Go Go.RowKit

theorem okEl_Rd (l : List Rd) : ∀ e ∈ l.map dRd, okEl 3 e = true := by
  intro e he
  obtain ⟨w, _, rfl⟩ := List.mem_map.1 he
  rfl
theorem c_IndexFunc_Rd (ns : List Rd) (f : Nat) (cap : List D) (p : Rd → Bool) (hl : ns.length ≤ 1000000) (hcap : cap.length ≤ 8) (hp : ∀ n ∈ ns, CSpec Tryz.prog f (dRd n :: cap) (.bool (p n))) : CSpec Tryz.prog 135 [.vec (ns.map dRd), .func (f, 0) cap] (.int .i64 (idxOf p ns)) := by
  refine CSpec.of_awp envOf_ok hmix Tryz.func135 rfl (fun args w => Tryz.call135 args w) (by simp [Tryz.f135]) ?_
  simp only [Tryz.f135]
  simp (maxSteps := 2000000) -implicitDefEqProofs only [zz, zE, evop, ev, ofVal, tget, tput, ok, V.isUndef, initT, Ch.on, sliceOf, lenOf, ↓reduceIte, reduceCtorEq, Nat.reduceLT, Int.reduceNeg]
  refine wloop_ind (σ := Nat) (fun i => ns.length - i) (fun i => [(8, .d (.int .i64 i)), (7, .d (.int .i64 ns.length)), (4, .d (.int .i64 0)), (0, .d (.vec (ns.map dRd))), (1, .d (.func (f, 0) cap))]) (fun _ => []) (fun i => i ≤ ns.length ∧ ∀ j < i, ∀ x, ns[j]? = some x → p x = false) 0 ⟨Nat.zero_le _, fun j hj => by omega⟩ (Weak.sub (by simp [tget])) ?_
  intro i ⟨hi, hb⟩
  rcases Nat.lt_or_ge i ns.length with h | h
  · have hx : ns[i]? = some ns[i] := List.getElem?_eq_getElem h
    have h' : ((i : Int) < (ns.length : Int)) := by omega
    simp (maxSteps := 2000000) -implicitDefEqProofs only [zz, zE, evop, ev, tget, tput, ok, V.isUndef, intBin, Ch.on, calleeOf, withArgs, told, D.cells, loadD, ↓reduceIte, reduceCtorEq, Nat.reduceLT, Nat.reduceEqDiff, Nat.reduceAdd, Nat.reduceLeDiff, Int.reduceNeg, nilTest, dRd, h', List.getElem?_map, hx, Option.map_some, Int.natCast_nonneg]
    refine acall_flat (ds := dRd ns[i] :: cap) (by simp only [xports, xport, xports_ds cap 39 (by omega), dRd]) (hp _ (List.getElem_mem h)) rfl ?_
    simp (maxSteps := 2000000) -implicitDefEqProofs only [zz, evop, ev, ofVal, tget, tput, ok, V.isUndef, intBin, Ch.on, told, xport, resOf, resV, resVs, ↓reduceIte, Nat.reduceLT, Nat.reduceEqDiff, Int.reduceNeg, nilTest]
    split
    · rename_i hpx
      simp [idxOf, findIdx_at h hb hpx]
    · rename_i hpx
      refine ⟨i + 1, ⟨h, fun j hj x hxj => ?_⟩, by omega, Weak.sub ?_⟩
      · rcases Nat.lt_or_ge j i with hji | hji
        · exact hb j hji x hxj
        · have : j = i := by omega
          subst this
          rw [hx] at hxj; cases hxj
          simpa using hpx
      · have hw : IntKind.i64.wrap ((i : Int) + 1) = (i : Int) + 1 := by rw [IntKind.wrap_i64]; omega
        simp [tget, hw]
  · have h' : ¬ ((i : Int) < (ns.length : Int)) := by omega
    simp (maxSteps := 2000000) -implicitDefEqProofs only [zz, evop, ev, ofVal, tget, tput, ok, V.isUndef, intBin, Ch.on, told, xport, resOf, resV, resVs, ↓reduceIte, Nat.reduceLT, Nat.reduceEqDiff, Int.reduceNeg, nilTest, h']
    have : ns.findIdx? p = none := by
      rw [List.findIdx?_eq_none_iff]
      intro x hx
      obtain ⟨j, hj, rfl⟩ := List.getElem_of_mem hx
      simpa using hb j (by omega) _ (List.getElem?_eq_getElem hj)
    simp [idxOf, this]
theorem c_IndexFunc_R (ns : List (Int × Int)) (f : Nat) (cap : List D) (p : (Int × Int) → Bool) (hl : ns.length ≤ 1000000) (hcap : cap.length ≤ 8) (hp : ∀ n ∈ ns, CSpec Tryz.prog f (dW n :: cap) (.bool (p n))) : CSpec Tryz.prog 137 [.vec (ns.map dW), .func (f, 0) cap] (.int .i64 (idxOf p ns)) := by
  refine CSpec.of_awp envOf_ok hmix Tryz.func137 rfl (fun args w => Tryz.call137 args w) (by simp [Tryz.f137]) ?_
  simp only [Tryz.f137]
  simp (maxSteps := 2000000) -implicitDefEqProofs only [zz, zE, evop, ev, ofVal, tget, tput, ok, V.isUndef, initT, Ch.on, sliceOf, lenOf, ↓reduceIte, reduceCtorEq, Nat.reduceLT, Int.reduceNeg]
  refine wloop_ind (σ := Nat) (fun i => ns.length - i) (fun i => [(8, .d (.int .i64 i)), (7, .d (.int .i64 ns.length)), (4, .d (.int .i64 0)), (0, .d (.vec (ns.map dW))), (1, .d (.func (f, 0) cap))]) (fun _ => []) (fun i => i ≤ ns.length ∧ ∀ j < i, ∀ x, ns[j]? = some x → p x = false) 0 ⟨Nat.zero_le _, fun j hj => by omega⟩ (Weak.sub (by simp [tget])) ?_
  intro i ⟨hi, hb⟩
  rcases Nat.lt_or_ge i ns.length with h | h
  · have hx : ns[i]? = some ns[i] := List.getElem?_eq_getElem h
    have h' : ((i : Int) < (ns.length : Int)) := by omega
    simp (maxSteps := 2000000) -implicitDefEqProofs only [zz, zE, evop, ev, tget, tput, ok, V.isUndef, intBin, Ch.on, calleeOf, withArgs, told, D.cells, loadD, ↓reduceIte, reduceCtorEq, Nat.reduceLT, Nat.reduceEqDiff, Nat.reduceAdd, Nat.reduceLeDiff, Int.reduceNeg, nilTest, dW, h', List.getElem?_map, hx, Option.map_some, Int.natCast_nonneg]
    refine acall_flat (ds := dW ns[i] :: cap) (by simp only [xports, xport, xports_ds cap 39 (by omega), dW]) (hp _ (List.getElem_mem h)) rfl ?_
    simp (maxSteps := 2000000) -implicitDefEqProofs only [zz, evop, ev, ofVal, tget, tput, ok, V.isUndef, intBin, Ch.on, told, xport, resOf, resV, resVs, ↓reduceIte, Nat.reduceLT, Nat.reduceEqDiff, Int.reduceNeg, nilTest]
    split
    · rename_i hpx
      simp [idxOf, findIdx_at h hb hpx]
    · rename_i hpx
      refine ⟨i + 1, ⟨h, fun j hj x hxj => ?_⟩, by omega, Weak.sub ?_⟩
      · rcases Nat.lt_or_ge j i with hji | hji
        · exact hb j hji x hxj
        · have : j = i := by omega
          subst this
          rw [hx] at hxj; cases hxj
          simpa using hpx
      · have hw : IntKind.i64.wrap ((i : Int) + 1) = (i : Int) + 1 := by rw [IntKind.wrap_i64]; omega
        simp [tget, hw]
  · have h' : ¬ ((i : Int) < (ns.length : Int)) := by omega
    simp (maxSteps := 2000000) -implicitDefEqProofs only [zz, evop, ev, ofVal, tget, tput, ok, V.isUndef, intBin, Ch.on, told, xport, resOf, resV, resVs, ↓reduceIte, Nat.reduceLT, Nat.reduceEqDiff, Int.reduceNeg, nilTest, h']
    have : ns.findIdx? p = none := by
      rw [List.findIdx?_eq_none_iff]
      intro x hx
      obtain ⟨j, hj, rfl⟩ := List.getElem_of_mem hx
      simpa using hb j (by omega) _ (List.getElem?_eq_getElem hj)
    simp [idxOf, this]
theorem c_ContainsFunc_R (ns : List (Int × Int)) (f : Nat) (cap : List D) (p : (Int × Int) → Bool) (hl : ns.length ≤ 1000000) (hcap : cap.length ≤ 8) (hp : ∀ n ∈ ns, CSpec Tryz.prog f (dW n :: cap) (.bool (p n))) : CSpec Tryz.prog 83 [.vec (ns.map dW), .func (f, 0) cap] (.bool (ns.any p)) := by
  refine CSpec.of_awp envOf_ok hmix Tryz.func83 rfl (fun args w => Tryz.call83 args w) (by simp [Tryz.f83]) ?_
  simp only [Tryz.f83]
  simp (maxSteps := 2000000) -implicitDefEqProofs only [zz, evop, ev, ofVal, tget, tput, ok, V.isUndef, initT, Ch.on, calleeOf, withArgs, ↓reduceIte, reduceCtorEq, Nat.reduceLT, Nat.reduceEqDiff]
  refine acall_flat' (c_IndexFunc_R ns f cap p hl hcap hp) rfl ?_
  try simp (maxSteps := 2000000) -implicitDefEqProofs only [zz, evop, ev, ofVal, tget, tput, ok, V.isUndef, intBin, Ch.on, xport, resOf, resV, resVs, ↓reduceIte, Nat.reduceLT, nilTest]
  rw [idxOf_nonneg]
theorem o_Clone_Rd (els : List D) (h1 : els.length * 24 ≤ 140737488355328) (h2 : ∀ e ∈ els, okEl 3 e = true) : FSpec Tryz.prog 213 [.vec els] (.own 0 0 els.length) [.dat false 3 els] := by
  refine FSpec.of_awp envOf_ok hmix Tryz.func213 rfl (fun args w => Tryz.call213 args w) (by simp [Tryz.f213]) ?_
  simp only [Tryz.f213]
  simp (maxSteps := 2000000) -implicitDefEqProofs only [zz, zE, evop, ev, ofVal, tget, tput, ok, V.isUndef, initT, Ch.on, told, hget, hput, V.cells, V.isAgg, V.clo, clos, sliceOf, partsD, elems, resOf, resV, resVs, ↓reduceIte, reduceCtorEq, Nat.reduceLT, Nat.reduceEqDiff, Nat.reduceMul, Nat.reduceLeDiff, nilTest]
  refine ⟨fun h => ?_, ⟨h1, h2⟩, ?_⟩
  · subst h
    refine Weak.pick [7] (by simp) (by simp) rfl (fun q hq => ?_) (fun i hi => ?_)
    · obtain rfl : q = _ := by simpa using hq
      exact .nils 0 3 rfl
    · obtain rfl : i = 0 := by simpa using hi
      exact .virt 3 rfl rfl
  · refine Weak.pick [1] (by simp) (by simp) rfl (fun q hq => ?_) (fun i hi => ?_)
    · obtain rfl : q = _ := by simpa using hq
      exact .same _
    · obtain rfl : i = 0 := by simpa using hi
      exact .dat false 3 els rfl rfl

theorem c_somebody (w : Int) : CSpec Tryz.prog 92 [.int .i64 w] (.bool (decide (1 ≤ w) && decide (w ≤ 8))) := by
  refine CSpec.of_awp envOf_ok hmix Tryz.func92 rfl (fun args w => Tryz.call92 args w) (by simp [Tryz.f92]) ?_
  simp only [Tryz.f92]
  simp (maxSteps := 2000000) -implicitDefEqProofs only [zz, evop, ev, ofVal, tget, tput, ok, V.isUndef, intBin, guardOf, initT, Ch.on, xport, resOf, resV, resVs, ↓reduceIte, reduceCtorEq, Nat.reduceLT, Nat.reduceEqDiff, nilTest]
  split
  · rename_i h
    simp [h]
  · rename_i h
    simp [h]
theorem c_stripe_wrong (r : Int × Int) : CSpec Tryz.prog 112 [dW r] (.bool (wrongR r)) := by
  have e1 : wrongR r = (decide (r.1 < 0) || (decide (2147483647 < r.1) || (decide (r.2 ≠ 0) && !(decide (1 ≤ r.2) && decide (r.2 ≤ 8))))) := by
    unfold wrongR
    rw [Bool.eq_iff_iff]
    simp
    omega
  rw [e1]
  refine CSpec.of_awp envOf_ok hmix Tryz.func112 rfl (fun args w => Tryz.call112 args w) (by simp [Tryz.f112]) ?_
  simp only [Tryz.f112]
  simp (maxSteps := 2000000) -implicitDefEqProofs only [zz, zE, evop, ev, ofVal, tget, tput, ok, V.isUndef, intBin, guardOf, initT, Ch.on, calleeOf, withArgs, xport, hget, hput, V.cells, structAt, Blk.width, resOf, resV, resVs, ↓reduceIte, reduceCtorEq, Nat.reduceLT, Nat.reduceEqDiff, Nat.reduceAdd, nilTest, dW]
  by_cases h1 : r.1 < 0
  · have d1 := decide_eq_true h1
    simp (maxSteps := 2000000) -implicitDefEqProofs only [zz, ↓reduceIte, h1, Bool.true_or]
  have d1 := decide_eq_false h1
  simp (maxSteps := 2000000) -implicitDefEqProofs only [zz, ↓reduceIte, h1, Bool.false_or]
  by_cases h2 : r.1 > 2147483647
  · have d2 : decide (2147483647 < r.1) = true := decide_eq_true h2
    simp (maxSteps := 2000000) -implicitDefEqProofs only [zz, ↓reduceIte, h2, Bool.true_or]
  have d2 : decide (2147483647 < r.1) = false := decide_eq_false h2
  simp (maxSteps := 2000000) -implicitDefEqProofs only [zz, ↓reduceIte, h2, Bool.false_or]
  by_cases h3 : r.2 = 0
  · have d3 : (r.2 != 0) = false := by simpa using h3
    have d4 : decide (r.2 ≠ 0) = false := by simpa using h3
    simp (maxSteps := 2000000) -implicitDefEqProofs only [zz, ↓reduceIte, d3, d4]
  have d3 : (r.2 != 0) = true := by simpa using h3
  have d4 : decide (r.2 ≠ 0) = true := by simpa using h3
  simp (maxSteps := 2000000) -implicitDefEqProofs only [zz, ↓reduceIte, d3, d4]
  refine acall_flat' (c_somebody r.2) rfl ?_
  try simp (maxSteps := 2000000) -implicitDefEqProofs only [zz, evop, ev, tget, tput, ok, V.isUndef, guardOf, Ch.on, xport, resOf, resV, resVs, ↓reduceIte, Nat.reduceLT, Nat.reduceEqDiff]
theorem c_stripe_Right (r : List (Int × Int)) : CSpec Tryz.prog 63 [.vec (r.map dW)] (.bool (tableR r)) := by
  refine CSpec.of_awp envOf_ok hmix Tryz.func63 rfl (fun args w => Tryz.call63 args w) (by simp [Tryz.f63]) ?_
  simp only [Tryz.f63]
  simp (maxSteps := 2000000) -implicitDefEqProofs only [zz, zE, evop, ev, ofVal, tget, tput, ok, V.isUndef, intBin, guardOf, initT, Ch.on, calleeOf, withArgs, xport, sliceOf, lenOf, resOf, resV, resVs, ↓reduceIte, reduceCtorEq, Nat.reduceLT, Nat.reduceEqDiff, nilTest]
  unfold tableR
  split
  · rename_i h1
    split
    · rename_i h2
      refine acall_flat' (c_ContainsFunc_R r _ [] wrongR (by omega) (by decide) (fun w _ => c_stripe_wrong w)) rfl ?_
      try simp (maxSteps := 2000000) -implicitDefEqProofs only [zz, evop, ev, tget, tput, ok, V.isUndef, guardOf, Ch.on, xport, resOf, resV, resVs, ↓reduceIte, Nat.reduceLT, Nat.reduceEqDiff]
      rw [decide_eq_true (by omega : 1 ≤ r.length), decide_eq_true (by omega : r.length ≤ 16)]; simp
    · rename_i h2
      rw [decide_eq_false (by omega : ¬ r.length ≤ 16)]; simp
  · rename_i h1
    rw [decide_eq_false (by omega : ¬ 1 ≤ r.length)]; simp
end Go.Proofs.YtjhfpabldidlgaaGreat.AM

set_option linter.all false
set_option maxRecDepth 100000
set_option maxHeartbeats 4000000
namespace Go.Proofs.YtjhfpabldidlgaaGreat.AM
open Go Go.RowKit

def whoB (w : Int) : Bool := decide (1 ≤ w) && decide (w ≤ 8)
def recAt (t : List (Int × Int)) (i : Int) : Int × Int := (t[i.toNat]?).getD (0, 0)
def heldN (t : List (Int × Int)) (who : Int) (k : Nat) : List Int := ((List.range k).filter fun (i : Nat) => (recAt t (i : Int)).2 == who).map fun (i : Nat) => (i : Int)
def heldR (t : List (Int × Int)) (who : Int) : List Int := if (tableR t && whoB who) = true then heldN t who t.length else []
def negI (c : Int) : Bool := decide (c < 0)
def placesL (t : List (Int × Int)) (cells : List Int) : List Int := cells.map fun c => c.tmod t.length
def mayO' (t : List (Int × Int)) (cells : List Int) : Bool := tableR t && !(cells.any negI)
def ofR (t : List (Int × Int)) (cells : List Int) : List Int := if mayO' t cells = true then cmpZ (srtI (placesL t cells)) else []
def setsL (t : List (Int × Int)) (L : List Int) (g : Int × Int → Int × Int) : List (Int × Int) := (List.range t.length).map fun (i : Nat) => if (i : Int) ∈ L then g (recAt t i) else recAt t i
def badO (t : List (Int × Int)) (who : Int) (i : Int) : Bool := ((recAt t i).2 != 0) && ((recAt t i).2 != who)
def lockR (t : List (Int × Int)) (who : Int) (cells : List Int) : List (Int × Int) × Int :=
  if (mayO' t cells && whoB who) = true then (if (ofR t cells).any (badO t who) = true then (t, 7) else (setsL t (ofR t cells) fun r => (r.1, who), 0)) else (t, 1)
def letR (t : List (Int × Int)) (who : Int) : List (Int × Int) := setsL t (heldR t who) fun r => (r.1, 0)
def stampR (t : List (Int × Int)) (who v : Int) : List (Int × Int) × Int :=
  if (tableR t && whoB who) = true then (if v < 0 ∨ 2147483647 < v ∨ (heldR t who).any (fun i => decide (v ≤ (recAt t i).1)) = true then (t, 6) else (setsL t (heldR t who) fun _ => (v, 0), 0)) else (t, 1)

theorem heldN_succ (t : List (Int × Int)) (who : Int) (k : Nat) : heldN t who (k + 1) = if (recAt t k).2 = who then heldN t who k ++ [(k : Int)] else heldN t who k := by
  unfold heldN
  rw [List.range_succ, List.filter_append, List.map_append]
  by_cases h : (recAt t k).2 = who <;> simp [h]
theorem heldN_len (t : List (Int × Int)) (who : Int) (k : Nat) : (heldN t who k).length ≤ k := by
  unfold heldN; rw [List.length_map]; exact Nat.le_trans (List.length_filter_le ..) (by simp)
theorem heldN_mem {t : List (Int × Int)} {who : Int} {k : Nat} {i : Int} : i ∈ heldN t who k ↔ 0 ≤ i ∧ i < k ∧ (recAt t i).2 = who := by
  unfold heldN
  simp only [List.mem_map, List.mem_filter, List.mem_range, beq_iff_eq]
  constructor
  · rintro ⟨a, ⟨h1, h2⟩, rfl⟩; exact ⟨by omega, by omega, h2⟩
  · rintro ⟨h1, h2, h3⟩
    refine ⟨i.toNat, ⟨by omega, ?_⟩, by omega⟩
    have : ((i.toNat : Nat) : Int) = i := by omega
    rw [this]; exact h3
theorem heldR_mem {t : List (Int × Int)} {who : Int} {i : Int} : i ∈ heldR t who ↔ (tableR t && whoB who) = true ∧ 0 ≤ i ∧ i < t.length ∧ (recAt t i).2 = who := by
  unfold heldR
  split
  · rename_i h; rw [heldN_mem]; simp [h]
  · rename_i h; simp [h]
theorem recAt_get {t : List (Int × Int)} {i : Nat} (h : i < t.length) : t[i]? = some (recAt t i) := by
  unfold recAt; rw [Int.toNat_natCast, List.getElem?_eq_getElem h]; rfl
theorem recAt_int {t : List (Int × Int)} {i : Int} (h0 : 0 ≤ i) (h : i < t.length) : t[i.toNat]? = some (recAt t i) := by
  unfold recAt; rw [List.getElem?_eq_getElem (by omega)]; rfl
theorem setsL_len (t : List (Int × Int)) (L : List Int) (g : Int × Int → Int × Int) : (setsL t L g).length = t.length := by simp [setsL]
theorem setsL_get {t : List (Int × Int)} {L : List Int} {g : Int × Int → Int × Int} {i : Nat} (h : i < t.length) : (setsL t L g)[i]? = some (if (i : Int) ∈ L then g (recAt t i) else recAt t i) := by
  unfold setsL; rw [List.getElem?_map, List.getElem?_range h]; rfl
theorem setsL_nil (t : List (Int × Int)) (g : Int × Int → Int × Int) : setsL t [] g = t := by
  refine List.ext_getElem? (fun i => ?_)
  rcases Nat.lt_or_ge i t.length with h | h
  · rw [setsL_get h, recAt_get h]; simp
  · rw [List.getElem?_eq_none (by rw [setsL_len]; exact h), List.getElem?_eq_none h]
theorem setsL_snoc {t : List (Int × Int)} {L : List Int} {g : Int × Int → Int × Int} {i : Int} (h0 : 0 ≤ i) (hi : i < t.length) : setsL t (L ++ [i]) g = (setsL t L g).set i.toNat (g (recAt t i)) := by
  refine List.ext_getElem? (fun k => ?_)
  rcases Nat.lt_or_ge k t.length with h | h
  · rw [setsL_get h]
    by_cases e : k = i.toNat
    · subst e
      rw [List.getElem?_set_self (by rw [setsL_len]; exact h)]
      have : ((i.toNat : Nat) : Int) = i := by omega
      rw [this]; simp
    · rw [List.getElem?_set_ne (fun g => e g.symm), setsL_get h]
      have : (k : Int) ≠ i := by omega
      simp [this]
  · rw [List.getElem?_eq_none (by rw [setsL_len]; exact h), List.getElem?_eq_none (by rw [List.length_set, setsL_len]; exact h)]
theorem mem_cmpctGo (x : Int) : ∀ (r : List Int) (y : Int), (x = y ∨ x ∈ cmpctGo (fun a b => a == b) y r) ↔ (x = y ∨ x ∈ r)
  | [], y => by simp [cmpctGo]
  | z :: r, y => by
    unfold cmpctGo
    have := mem_cmpctGo x r z
    cases h : (z == y) with
    | true =>
      have hz : z = y := by simpa using h
      subst hz
      simp only [cond_true, List.mem_cons]
      rw [this]; simp
    | false =>
      simp only [cond_false, List.mem_cons]
      rw [this]
theorem mem_cmpZ (x : Int) (l : List Int) : x ∈ cmpZ l ↔ x ∈ l := by
  unfold cmpZ
  cases l with
  | nil => simp [cmpct]
  | cons y r =>
    have := mem_cmpctGo x r y
    simp only [cmpct, List.mem_cons]
    exact this
theorem mem_srtI (x : Int) (l : List Int) : x ∈ srtI l ↔ x ∈ l := (List.mergeSort_perm l _).mem_iff
theorem ofR_mem {t : List (Int × Int)} {cells : List Int} (h : mayO' t cells = true) {i : Int} : i ∈ ofR t cells ↔ ∃ c ∈ cells, c.tmod t.length = i := by
  unfold ofR
  rw [if_pos h, mem_cmpZ, mem_srtI]
  simp [placesL]
theorem tableR_len {t : List (Int × Int)} (h : tableR t = true) : 1 ≤ t.length ∧ t.length ≤ 16 := by
  simp only [tableR, Bool.and_eq_true, decide_eq_true_eq] at h; omega
theorem ofR_in {t : List (Int × Int)} {cells : List Int} {i : Int} (h : i ∈ ofR t cells) : 0 ≤ i ∧ i < t.length := by
  by_cases hm : mayO' t cells = true
  · obtain ⟨c, hc, rfl⟩ := (ofR_mem hm).1 h
    simp only [mayO', Bool.and_eq_true, Bool.not_eq_true', List.any_eq_false] at hm
    have h0 : 0 ≤ c := by have := hm.2 c hc; simp [negI] at this; exact this
    have := tableR_len hm.1
    exact ⟨Int.tmod_nonneg _ h0, Int.tmod_lt_of_pos _ (by omega)⟩
  · unfold ofR at h; rw [if_neg hm] at h; simp at h
theorem ofR_len (t : List (Int × Int)) (cells : List Int) : (ofR t cells).length ≤ cells.length := by
  unfold ofR
  split
  · have := cmpct_len (q := fun a b => a == b) (srtI (placesL t cells))
    rw [srtI_len] at this
    simpa [placesL, cmpZ] using this
  · simp
end Go.Proofs.YtjhfpabldidlgaaGreat.AM

set_option linter.all false
set_option maxRecDepth 100000
set_option maxHeartbeats 8000000
namespace Go.Proofs.YtjhfpabldidlgaaGreat.AM
open Go Go.RowKit

theorem o_Clone_R (els : List D) (h1 : els.length * 16 ≤ 140737488355328) (h2 : ∀ e ∈ els, okEl 2 e = true) : FSpec Tryz.prog 95 [.vec els] (.own 0 0 els.length) [.dat false 2 els] := by
  refine FSpec.of_awp envOf_ok hmix Tryz.func95 rfl (fun args w => Tryz.call95 args w) (by simp [Tryz.f95]) ?_
  simp only [Tryz.f95]
  simp (maxSteps := 2000000) -implicitDefEqProofs only [zz, zE, evop, ev, ofVal, tget, tput, ok, V.isUndef, initT, Ch.on, told, hget, hput, V.cells, V.isAgg, V.clo, clos, sliceOf, partsD, elems, resOf, resV, resVs, ↓reduceIte, reduceCtorEq, Nat.reduceLT, Nat.reduceEqDiff, Nat.reduceMul, Nat.reduceLeDiff, nilTest]
  refine ⟨fun h => ?_, ⟨h1, h2⟩, ?_⟩
  · subst h
    refine Weak.pick [7] (by simp) (by simp) rfl (fun q hq => ?_) (fun i hi => ?_)
    · obtain rfl : q = _ := by simpa using hq
      exact .nils 0 2 rfl
    · obtain rfl : i = 0 := by simpa using hi
      exact .virt 2 rfl rfl
  · refine Weak.pick [1] (by simp) (by simp) rfl (fun q hq => ?_) (fun i hi => ?_)
    · obtain rfl : q = _ := by simpa using hq
      exact .same _
    · obtain rfl : i = 0 := by simpa using hi
      exact .dat false 2 els rfl rfl

theorem c_neg (c : Int) : CSpec Tryz.prog 94 [.int .i64 c] (.bool (negI c)) := by
  refine CSpec.of_awp envOf_ok hmix Tryz.func94 rfl (fun args w => Tryz.call94 args w) (by simp [Tryz.f94]) ?_
  simp only [Tryz.f94]
  simp (maxSteps := 2000000) -implicitDefEqProofs only [zz, evop, ev, ofVal, tget, tput, ok, V.isUndef, intBin, initT, Ch.on, xport, resOf, resV, resVs, ↓reduceIte, reduceCtorEq, Nat.reduceLT, nilTest]
  rfl

theorem c_Held (t : List (Int × Int)) (who : Int) : CSpec Tryz.prog 42 [.vec (t.map dW), .int .i64 who] (.vec ((heldR t who).map dI)) := by
  refine CSpec.of_awp envOf_ok hmix Tryz.func42 rfl (fun args w => Tryz.call42 args w) (by simp [Tryz.f42]) ?_
  simp only [Tryz.f42]
  simp (maxSteps := 2000000) -implicitDefEqProofs only [zz, evop, ev, ofVal, tget, tput, ok, V.isUndef, initT, Ch.on, calleeOf, withArgs, ↓reduceIte, reduceCtorEq, Nat.reduceLT]
  refine acall_flat' (c_stripe_Right t) rfl ?_
  try simp (maxSteps := 2000000) -implicitDefEqProofs only [zz, evop, ev, ofVal, tget, tput, ok, V.isUndef, guardOf, Ch.on, calleeOf, withArgs, told, xport, resOf, resV, resVs, ↓reduceIte, reduceCtorEq, Nat.reduceLT, Nat.reduceEqDiff]
  cases h1 : tableR t with
  | false =>
    have hz : heldR t who = [] := by simp [heldR, h1]
    rw [hz]
    simp (maxSteps := 2000000) -implicitDefEqProofs only [zz, ↓reduceIte]
  | true =>
  simp (maxSteps := 2000000) -implicitDefEqProofs only [zz, ↓reduceIte]
  have hwb := c_somebody who
  refine acall_flat' (hwb) rfl ?_
  try simp (maxSteps := 2000000) -implicitDefEqProofs only [zz, zE, evop, ev, ofVal, tget, tput, ok, V.isUndef, guardOf, Ch.on, told, xport, sliceOf, lenOf, resOf, resV, resVs, ↓reduceIte, reduceCtorEq, Nat.reduceLT, Nat.reduceEqDiff]
  cases h2 : (decide (1 ≤ who) && decide (who ≤ 8)) with
  | false =>
    have h2' : whoB who = false := h2
    have hz : heldR t who = [] := by simp [heldR, h2']
    rw [hz]
    simp (maxSteps := 2000000) -implicitDefEqProofs only [zz, ↓reduceIte]
  | true =>
  have h2' : whoB who = true := h2
  have hz : heldR t who = heldN t who t.length := by simp [heldR, h1, h2']
  have htl := tableR_len h1
  have hl := heldN_len t who
  rw [hz]
  simp (maxSteps := 2000000) -implicitDefEqProofs only [zz, ↓reduceIte]
  refine wloop_count t.length (fun i => [(18, .d (.int .i64 i)), (17, .d (.int .i64 t.length)), (16, .d (.vec (t.map dW))), (1, .d (.int .i64 who)), (5, .own 0 0 (heldN t who i).length)]) (fun i => [.dat false 1 ((heldN t who i).map dI)]) (fun _ => True) trivial ?_ (fun i hi _ => ?_) (fun _ => ?_)
  · refine Weak.pick [7] (by simp) (by simp) rfl (fun q hq => ?_) (fun i hi => ?_)
    · simp only [List.mem_cons, List.not_mem_nil, or_false] at hq
      rcases hq with rfl | rfl | rfl | rfl | rfl
      · exact .same _
      · exact .same _
      · exact .same _
      · exact .same _
      · exact .nils 0 1 rfl
    · obtain rfl : i = 0 := by simpa using hi
      exact .virt 1 rfl rfl
  · have hx : t[i]? = some (recAt t i) := recAt_get hi
    have h' : ((i : Int) < (t.length : Int)) := by omega
    have hw : IntKind.i64.wrap ((i : Int) + 1) = ((i + 1 : Nat) : Int) := by rw [wrap_in (by omega)]; omega
    have hs := heldN_succ t who i
    simp (maxSteps := 2000000) -implicitDefEqProofs only [zz, zE, evop, ev, ofVal, tget, tput, ok, V.isUndef, intBin, Ch.on, told, hget, hput, V.cells, D.cells, V.one, V.toD, loadD, structAt, sliceOf, partsD, Blk.width, elems, splice, ↓reduceIte, reduceCtorEq, Nat.reduceLT, Nat.reduceEqDiff, Nat.reduceAdd, Nat.reduceMul, Nat.reduceLeDiff, nilTest, dW, h', List.getElem?_map, hx, Option.map_some, Int.natCast_nonneg, hw]
    by_cases hq : (recAt t i).2 = who
    · have eq : ((recAt t i).2 == who) = true := by simpa using hq
      rw [if_pos hq] at hs
      simp (maxSteps := 2000000) -implicitDefEqProofs only [↓reduceIte, eq]
      refine ⟨⟨by have := hl i; omega, okEl_I [(i : Int)]⟩, ?_⟩
      have e6 : List.take (heldN t who i).length ((heldN t who i).map dI) = (heldN t who i).map dI := by rw [List.take_of_length_le]; simp
      rw [hs, e6, List.length_append, List.map_append]
      refine Weak.pick [3] (by decide) (by simp) rfl (fun q hq => ?_) (fun i hi => ?_)
      · simp only [List.mem_cons, List.not_mem_nil, or_false] at hq
        rcases hq with rfl | rfl | rfl | rfl | rfl <;> exact .same _
      · match i, hi with
        | 0, _ => exact .dat _ _ _ rfl rfl
        | i + 1, hi => exact absurd hi (by simp)
    · have eq : ((recAt t i).2 == who) = false := by simpa using hq
      rw [if_neg hq] at hs
      simp (maxSteps := 2000000) -implicitDefEqProofs only [zz, ↓reduceIte, eq]
      rw [hs]
      refine Weak.pick [0] (by decide) (by simp) rfl (fun q hq => ?_) (fun i hi => ?_)
      · simp only [List.mem_cons, List.not_mem_nil, or_false] at hq
        rcases hq with rfl | rfl | rfl | rfl | rfl <;> exact .same _
      · match i, hi with
        | 0, _ => exact .dat _ _ _ rfl rfl
        | i + 1, hi => exact absurd hi (by simp)
  · have h' : ¬ ((t.length : Int) < (t.length : Int)) := by omega
    simp (maxSteps := 2000000) -implicitDefEqProofs only [zz, evop, ev, tget, tput, ok, V.isUndef, intBin, Ch.on, told, xport, hget, resOf, resV, resVs, ↓reduceIte, Nat.reduceLT, Nat.reduceEqDiff, nilTest, h']
    rw [List.take_of_length_le (by simp)]

theorem c_Of (t : List (Int × Int)) (cells : List Int) (hc : cells.length ≤ 1000000) : CSpec Tryz.prog 48 [.vec (t.map dW), .vec (cells.map dI)] (.vec ((ofR t cells).map dI)) := by
  refine CSpec.of_awp envOf_ok hmix Tryz.func48 rfl (fun args w => Tryz.call48 args w) (by simp [Tryz.f48]) ?_
  simp only [Tryz.f48]
  simp (maxSteps := 2000000) -implicitDefEqProofs only [zz, evop, ev, ofVal, tget, tput, ok, V.isUndef, initT, Ch.on, calleeOf, withArgs, ↓reduceIte, reduceCtorEq, Nat.reduceLT]
  refine acall_flat' (c_stripe_Right t) rfl ?_
  try simp (maxSteps := 2000000) -implicitDefEqProofs only [zz, evop, ev, ofVal, tget, tput, ok, V.isUndef, guardOf, Ch.on, calleeOf, withArgs, told, xport, resOf, resV, resVs, ↓reduceIte, reduceCtorEq, Nat.reduceLT, Nat.reduceEqDiff]
  cases h1 : tableR t with
  | false =>
    have hz : ofR t cells = [] := by simp [ofR, mayO', h1]
    rw [hz]
    simp (maxSteps := 2000000) -implicitDefEqProofs only [zz, ↓reduceIte]
  | true =>
  simp (maxSteps := 2000000) -implicitDefEqProofs only [zz, ↓reduceIte]
  refine acall_flat' (c_ContainsFunc_int cells _ [] negI hc (by decide) (fun n _ => c_neg n)) rfl ?_
  try simp (maxSteps := 2000000) -implicitDefEqProofs only [zz, zE, evop, ev, ofVal, tget, tput, ok, V.isUndef, Ch.on, told, xport, sliceOf, lenOf, resOf, resV, resVs, ↓reduceIte, reduceCtorEq, Nat.reduceLT, Nat.reduceEqDiff]
  cases h2 : cells.any negI with
  | true =>
    have hz : ofR t cells = [] := by simp only [ofR, mayO', h2]; simp
    rw [hz]
    simp (maxSteps := 2000000) -implicitDefEqProofs only [zz, ↓reduceIte]
  | false =>
  have hz : ofR t cells = cmpZ (srtI (placesL t cells)) := by simp only [ofR, mayO', h1, h2]; simp
  have htl := tableR_len h1
  have hpl : ∀ i, (placesL t (cells.take i)).length ≤ cells.length := fun i => by simp only [placesL, List.length_map, List.length_take]; omega
  have hne : (t.length : Int) ≠ 0 := by omega
  rw [hz]
  simp (maxSteps := 2000000) -implicitDefEqProofs only [zz, ↓reduceIte]
  refine wloop_count cells.length (fun i => [(17, .d (.int .i64 i)), (16, .d (.int .i64 cells.length)), (15, .d (.vec (cells.map dI))), (0, .d (.vec (t.map dW))), (5, .own 0 0 i)]) (fun i => [.dat false 1 ((placesL t (cells.take i)).map dI)]) (fun _ => True) trivial ?_ (fun i hi _ => ?_) (fun _ => ?_)
  · refine Weak.pick [7] (by simp) (by simp) rfl (fun q hq => ?_) (fun i hi => ?_)
    · simp only [List.mem_cons, List.not_mem_nil, or_false] at hq
      rcases hq with rfl | rfl | rfl | rfl | rfl
      · exact .same _
      · exact .same _
      · exact .same _
      · exact .same _
      · exact .nils 0 1 rfl
    · obtain rfl : i = 0 := by simpa using hi
      exact .virt 1 rfl rfl
  · have hx : cells[i]? = some cells[i] := List.getElem?_eq_getElem hi
    have h' : ((i : Int) < (cells.length : Int)) := by omega
    have hw : IntKind.i64.wrap ((i : Int) + 1) = ((i + 1 : Nat) : Int) := by rw [wrap_in (by omega)]; omega
    have hT : placesL t (cells.take (i + 1)) = placesL t (cells.take i) ++ [cells[i].tmod t.length] := by unfold placesL; rw [List.take_succ, hx, List.map_append]; rfl
    have e6 : List.take i ((placesL t (cells.take i)).map dI) = (placesL t (cells.take i)).map dI := by rw [List.take_of_length_le]; simp [placesL]; omega
    simp (maxSteps := 2000000) -implicitDefEqProofs only [zz, zE, evop, ev, ofVal, tget, tput, ok, V.isUndef, intBin, Ch.on, told, hget, hput, V.cells, D.cells, V.one, V.toD, loadD, sliceOf, partsD, elems, lenOf, ↓reduceIte, reduceCtorEq, Nat.reduceLT, Nat.reduceEqDiff, Nat.reduceAdd, Nat.reduceMul, Nat.reduceLeDiff, nilTest, dI, h', List.getElem?_map, hx, Option.map_some, Int.natCast_nonneg, hw]
    refine ⟨hne, ⟨by omega, okEl_I [cells[i].tmod t.length]⟩, ?_⟩
    rw [hT, e6, List.map_append]
    refine Weak.pick [2] (by decide) (by simp) rfl (fun q hq => ?_) (fun i hi => ?_)
    · simp only [List.mem_cons, List.not_mem_nil, or_false] at hq
      rcases hq with rfl | rfl | rfl | rfl | rfl <;> exact .same _
    · match i, hi with
      | 0, _ => exact .dat _ _ _ rfl rfl
      | i + 1, hi => exact absurd hi (by simp)
  · have h' : ¬ ((cells.length : Int) < (cells.length : Int)) := by omega
    have hpn : (placesL t cells).length = cells.length := by simp [placesL]
    rw [List.take_length]
    simp (maxSteps := 2000000) -implicitDefEqProofs only [zz, evop, ev, tget, tput, ok, V.isUndef, intBin, Ch.on, calleeOf, withArgs, told, ↓reduceIte, reduceCtorEq, Nat.reduceLT, Nat.reduceEqDiff, nilTest, h']
    have hs := r_Sort_int (placesL t cells) (by omega)
    have er := r_Compact_int (srtI (placesL t cells)) (by rw [srtI_len]; omega)
    rw [srtI_len] at er
    rw [hpn] at hs er
    refine acall_ref [0] (hs) (by first | rfl | simp [renL, V.ren, frρ, renL_ds]) (by simp) rfl (by simp) (by simp) (by intro j hj; match j, hj with | 0, _ => exact ⟨by simp [hget], rfl⟩) ?_
    try simp (maxSteps := 2000000) -implicitDefEqProofs only [zz, evop, ev, tget, tput, ok, V.isUndef, Ch.on, calleeOf, withArgs, hput, ↓reduceIte, reduceCtorEq, Nat.reduceLT, Nat.reduceEqDiff, Blk.ren, V.ren, renL, frameH, putL]
    refine acall_ref [0] (er) (by first | rfl | simp [renL, V.ren, frρ, renL_ds]) (by simp) rfl (by simp) (by simp) (by intro j hj; match j, hj with | 0, _ => exact ⟨by simp [hget], rfl⟩) ?_
    try simp (maxSteps := 2000000) -implicitDefEqProofs only [zz, evop, ev, tget, tput, ok, V.isUndef, Ch.on, xport, hget, hput, resOf, resV, resVs, ↓reduceIte, Nat.reduceLT, Nat.reduceSub, Blk.ren, V.ren, frameH, putL, frρ]
    rw [List.map_append, List.take_append_of_le_length (by simp), List.take_of_length_le (by simp)]

theorem c_Lock (t : List (Int × Int)) (who : Int) (cells : List Int) (hc : cells.length ≤ 1000000) : CSpec Tryz.prog 45 [.vec (t.map dW), .int .i64 who, .vec (cells.map dI)] (.tuple [.vec ((lockR t who cells).1.map dW), .int .i64 (lockR t who cells).2]) := by
  have bad : (mayO' t cells && whoB who) = false → lockR t who cells = (t, 1) := fun h => by simp only [lockR, h]; simp
  refine CSpec.of_awp envOf_ok hmix Tryz.func45 rfl (fun args w => Tryz.call45 args w) (by simp [Tryz.f45]) ?_
  simp only [Tryz.f45]
  simp (maxSteps := 2000000) -implicitDefEqProofs only [zz, evop, ev, ofVal, tget, tput, ok, V.isUndef, initT, Ch.on, calleeOf, withArgs, ↓reduceIte, reduceCtorEq, Nat.reduceLT, Nat.reduceAdd]
  refine acall_flat' (c_stripe_Right t) rfl ?_
  try simp (maxSteps := 2000000) -implicitDefEqProofs only [zz, evop, ev, ofVal, tget, tput, ok, V.isUndef, guardOf, Ch.on, calleeOf, withArgs, told, xport, xports, resOf, resV, resVs, ↓reduceIte, reduceCtorEq, Nat.reduceLT, Nat.reduceEqDiff]
  cases h1 : tableR t with
  | false =>
    rw [bad (by simp [mayO', h1])]
    simp (maxSteps := 2000000) -implicitDefEqProofs only [zz, ↓reduceIte]
  | true =>
  simp (maxSteps := 2000000) -implicitDefEqProofs only [zz, ↓reduceIte]
  have hwb := c_somebody who
  refine acall_flat' (hwb) rfl ?_
  try simp (maxSteps := 2000000) -implicitDefEqProofs only [zz, evop, ev, ofVal, tget, tput, ok, V.isUndef, guardOf, Ch.on, calleeOf, withArgs, told, xport, xports, resOf, resV, resVs, ↓reduceIte, reduceCtorEq, Nat.reduceLT, Nat.reduceEqDiff]
  cases h2 : (decide (1 ≤ who) && decide (who ≤ 8)) with
  | false =>
    have h2' : whoB who = false := h2
    rw [bad (by simp [h2'])]
    simp (maxSteps := 2000000) -implicitDefEqProofs only [zz, ↓reduceIte]
  | true =>
  have h2' : whoB who = true := h2
  simp (maxSteps := 2000000) -implicitDefEqProofs only [zz, ↓reduceIte]
  refine acall_flat' (c_ContainsFunc_int cells _ [] negI hc (by decide) (fun n _ => c_neg n)) rfl ?_
  try simp (maxSteps := 2000000) -implicitDefEqProofs only [zz, evop, ev, ofVal, tget, tput, ok, V.isUndef, Ch.on, calleeOf, withArgs, told, xport, xports, resOf, resV, resVs, ↓reduceIte, reduceCtorEq, Nat.reduceLT, Nat.reduceEqDiff]
  cases h3 : cells.any negI with
  | true =>
    rw [bad (by simp only [mayO', h3]; simp)]
    simp (maxSteps := 2000000) -implicitDefEqProofs only [↓reduceIte]
  | false =>
  have hmo : (mayO' t cells && whoB who) = true := by simp only [mayO', h1, h2', h3]; rfl
  have hlk : lockR t who cells = if (ofR t cells).any (badO t who) = true then (t, 7) else (setsL t (ofR t cells) fun r => (r.1, who), 0) := by unfold lockR; rw [if_pos hmo]
  have htl := tableR_len h1
  have hol := ofR_len t cells
  have hof := c_Of t cells hc
  have hin := fun i (h : i ∈ ofR t cells) => ofR_in h
  have hcl := o_Clone_R (t.map dW) (by simp; omega) (okEl_W _)
  rw [List.length_map] at hcl
  generalize ofR t cells = L at hlk hol hof hin
  simp (maxSteps := 2000000) -implicitDefEqProofs only [zz, ↓reduceIte]
  refine acall_own' (hcl) ?_
  try simp (maxSteps := 2000000) -implicitDefEqProofs only [zz, evop, ev, tget, tput, ok, V.isUndef, Ch.on, calleeOf, withArgs, tids, tidss, freeze, ↓reduceIte, reduceCtorEq, Nat.reduceLT, Nat.reduceEqDiff, shiftH, Blk.ren, V.ren]
  refine acall_ice' (hof) ?_
  try simp (maxSteps := 2000000) -implicitDefEqProofs only [zz, zE, evop, ev, ofVal, tget, tput, ok, V.isUndef, Ch.on, tids, tidss, freeze, sliceOf, lenOf, ↓reduceIte, Nat.reduceLT]
  refine wloop_count L.length (fun j => [(31, .d (.int .i64 j)), (30, .d (.int .i64 L.length)), (29, .d (.vec (L.map dI))), (0, .d (.vec (t.map dW))), (1, .d (.int .i64 who)), (8, .own 0 0 t.length)]) (fun j => [.dat false 2 ((setsL t (L.take j) fun r => (r.1, who)).map dW)]) (fun j => ∀ k < j, ∀ x, L[k]? = some x → badO t who x = false) (fun j hj => by omega) ?_ (fun j hj hI => ?_) (fun hI => ?_)
  · rw [List.take_zero, setsL_nil]
    refine Weak.pick [0] (by decide) (by simp) rfl (fun q hq => ?_) (fun i hi => ?_)
    · simp only [List.mem_cons, List.not_mem_nil, or_false] at hq
      rcases hq with rfl | rfl | rfl | rfl | rfl | rfl <;> exact .same _
    · match i, hi with
      | 0, _ => exact .dat _ _ _ rfl rfl
      | i + 1, hi => exact absurd hi (by simp)
  · have hx : L[j]? = some L[j] := List.getElem?_eq_getElem hj
    have h' : ((j : Int) < (L.length : Int)) := by omega
    have hw : IntKind.i64.wrap ((j : Int) + 1) = ((j + 1 : Nat) : Int) := by rw [wrap_in (by omega)]; omega
    have hT : L.take (j + 1) = L.take j ++ [L[j]] := by rw [List.take_succ, hx]; rfl
    obtain ⟨i0, i1⟩ := hin _ (List.getElem_mem hj)
    have hmem : L[j] ∈ L := List.getElem_mem hj
    generalize L[j] = x at hx hT i0 i1 hmem
    have hr := recAt_int i0 i1
    have hsg := setsL_get (t := t) (L := L.take j) (g := fun r => (r.1, who)) (i := x.toNat) (by omega)
    have exn : ((x.toNat : Nat) : Int) = x := by omega
    rw [exn] at hsg
    have hs := setsL_snoc (t := t) (L := L.take j) (g := fun r => (r.1, who)) i0 i1
    rw [← hT] at hs
    have hy : ∃ o, (setsL t (L.take j) fun r => (r.1, who))[x.toNat]? = some ((recAt t x).1, o) := by
      rw [hsg]
      split
      · exact ⟨_, rfl⟩
      · exact ⟨(recAt t x).2, rfl⟩
    obtain ⟨o, hy⟩ := hy
    simp (maxSteps := 2000000) -implicitDefEqProofs only [zz, zE, evop, ev, ofVal, tget, tput, ok, V.isUndef, intBin, guardOf, Ch.on, told, xport, xports, hget, hput, V.cells, D.cells, V.one, V.clo, clos, loadD, structAt, Blk.width, splice, D.over, resOf, resV, resVs, ↓reduceIte, reduceCtorEq, Nat.reduceLT, Nat.reduceEqDiff, Nat.reduceAdd, Nat.reduceLeDiff, nilTest, dI, dW, h', List.getElem?_map, hx, hr, Option.map_some, Int.natCast_nonneg, i0]
    cases hb : badO t who x with
    | true =>
      have hany : L.any (badO t who) = true := List.any_eq_true.2 ⟨x, hmem, hb⟩
      rw [hlk, if_pos hany]
      simp only [badO, Bool.and_eq_true] at hb
      simp (maxSteps := 2000000) -implicitDefEqProofs only [↓reduceIte, hb.1, hb.2]
    | false =>
      have fin : ∀ k < j + 1, ∀ z, L[k]? = some z → badO t who z = false := fun k hk z hz => by
        by_cases e : k = j
        · subst e; rw [hx] at hz; cases hz; exact hb
        · exact hI k (by omega) z hz
      have hij : 0 ≤ x ∧ x < (t.length : Int) := ⟨i0, i1⟩
      have fst : Weak 0 [(31, V.d (.int .i64 ((j + 1 : Nat) : Int))), (30, .d (.int .i64 L.length)), (29, .d (.vec (L.map dI))), (0, .d (.vec (t.map dW))), (1, .d (.int .i64 who)), (8, .own 0 0 t.length)] [.dat false 2 (((setsL t (L.take j) fun r => (r.1, who)).map dW).set x.toNat (.agg [.int .i64 (recAt t x).1, .int .i64 who]))] [(31, V.d (.int .i64 ((j + 1 : Nat) : Int))), (30, .d (.int .i64 L.length)), (29, .d (.vec (L.map dI))), (0, .d (.vec (t.map dW))), (1, .d (.int .i64 who)), (8, .own 0 0 t.length)] [.dat false 2 ((setsL t (L.take (j + 1)) fun r => (r.1, who)).map dW)] := by
        rw [hs, List.map_set]
        exact Weak.rfl'
      by_cases h0 : (recAt t x).2 = 0
      · have e0 : ((recAt t x).2 != 0) = false := by simpa using h0
        simp (maxSteps := 2000000) -implicitDefEqProofs only [zz, evop, ev, ofVal, tget, tput, ok, V.isUndef, intBin, Ch.on, hput, ↓reduceIte, Nat.reduceLT, Nat.reduceEqDiff, Nat.reduceAdd, Nat.reduceLeDiff, nilTest, dW, e0, hy, Option.map_some, hw]
        refine ⟨i1, fin, ?_⟩
        refine Weak.trans' (Weak.trims 1 rfl (by simp [tget, V.lower]) (by simp [Blk.lower])) fst
      · have e0 : ((recAt t x).2 != 0) = true := by simpa using h0
        have e1 : ((recAt t x).2 != who) = false := by simp only [badO, e0, Bool.true_and] at hb; exact hb
        simp (maxSteps := 2000000) -implicitDefEqProofs only [zz, evop, ev, ofVal, tget, tput, ok, V.isUndef, intBin, Ch.on, hput, ↓reduceIte, Nat.reduceLT, Nat.reduceEqDiff, Nat.reduceAdd, Nat.reduceLeDiff, nilTest, dW, e0, e1, hy, Option.map_some, hw]
        refine ⟨i1, fin, ?_⟩
        refine Weak.trans' (Weak.trims 1 rfl (by simp [tget, V.lower]) (by simp [Blk.lower])) fst
  · have h' : ¬ ((L.length : Int) < (L.length : Int)) := by omega
    have hany : L.any (badO t who) = false := by
      rw [List.any_eq_false]
      intro x hx
      obtain ⟨k, hk, rfl⟩ := List.getElem_of_mem hx
      have := hI k hk _ (List.getElem?_eq_getElem hk)
      simp [this]
    rw [hlk, hany, if_neg (by decide)]
    have hlen := setsL_len t L (fun r => (r.1, who))
    rw [List.take_length]
    simp (maxSteps := 2000000) -implicitDefEqProofs only [zz, evop, ev, ofVal, tget, tput, ok, V.isUndef, intBin, Ch.on, told, xport, xports, hget, resOf, resV, resVs, ↓reduceIte, reduceCtorEq, Nat.reduceLT, Nat.reduceEqDiff, nilTest, h']
    rw [List.take_of_length_le (by simp [hlen])]

theorem c_Let (t : List (Int × Int)) (who : Int) (hl : t.length ≤ 1000000) : CSpec Tryz.prog 143 [.vec (t.map dW), .int .i64 who] (.vec ((letR t who).map dW)) := by
  refine CSpec.of_awp envOf_ok hmix Tryz.func143 rfl (fun args w => Tryz.call143 args w) (by simp [Tryz.f143]) ?_
  simp only [Tryz.f143]
  simp (maxSteps := 2000000) -implicitDefEqProofs only [zz, evop, ev, ofVal, tget, tput, ok, V.isUndef, initT, Ch.on, calleeOf, withArgs, ↓reduceIte, reduceCtorEq, Nat.reduceLT]
  have hcl := o_Clone_R (t.map dW) (by simp; omega) (okEl_W _)
  rw [List.length_map] at hcl
  have hh := c_Held t who
  have hin : ∀ i ∈ heldR t who, 0 ≤ i ∧ i < t.length := fun i h => by have := heldR_mem.1 h; exact ⟨this.2.1, this.2.2.1⟩
  have hlen : (heldR t who).length ≤ t.length := by unfold heldR; split; exact heldN_len ..; simp
  unfold letR
  generalize heldR t who = L at hh hin hlen
  refine acall_own' (hcl) ?_
  try simp (maxSteps := 2000000) -implicitDefEqProofs only [zz, evop, ev, tget, tput, ok, V.isUndef, Ch.on, calleeOf, withArgs, tids, tidss, freeze, ↓reduceIte, reduceCtorEq, Nat.reduceLT, Nat.reduceEqDiff, shiftH, Blk.ren, V.ren]
  refine acall_ice' (hh) ?_
  try simp (maxSteps := 2000000) -implicitDefEqProofs only [zz, zE, evop, ev, ofVal, tget, tput, ok, V.isUndef, Ch.on, tids, tidss, freeze, sliceOf, lenOf, ↓reduceIte, Nat.reduceLT]
  refine wloop_count L.length (fun j => [(14, .d (.int .i64 j)), (13, .d (.int .i64 L.length)), (12, .d (.vec (L.map dI))), (5, .own 0 0 t.length)]) (fun j => [.dat false 2 ((setsL t (L.take j) fun r => (r.1, 0)).map dW)]) (fun _ => True) trivial ?_ (fun j hj _ => ?_) (fun _ => ?_)
  · rw [List.take_zero, setsL_nil]
    refine Weak.pick [0] (by decide) (by simp) rfl (fun q hq => ?_) (fun i hi => ?_)
    · simp only [List.mem_cons, List.not_mem_nil, or_false] at hq
      rcases hq with rfl | rfl | rfl | rfl <;> exact .same _
    · match i, hi with
      | 0, _ => exact .dat _ _ _ rfl rfl
      | i + 1, hi => exact absurd hi (by simp)
  · have hx : L[j]? = some L[j] := List.getElem?_eq_getElem hj
    have h' : ((j : Int) < (L.length : Int)) := by omega
    have hw : IntKind.i64.wrap ((j : Int) + 1) = ((j + 1 : Nat) : Int) := by rw [wrap_in (by omega)]; omega
    have hT : L.take (j + 1) = L.take j ++ [L[j]] := by rw [List.take_succ, hx]; rfl
    obtain ⟨i0, i1⟩ := hin _ (List.getElem_mem hj)
    generalize L[j] = x at hx hT i0 i1
    have hsg := setsL_get (t := t) (L := L.take j) (g := fun r => (r.1, 0)) (i := x.toNat) (by omega)
    have exn : ((x.toNat : Nat) : Int) = x := by omega
    rw [exn] at hsg
    have hs := setsL_snoc (t := t) (L := L.take j) (g := fun r => (r.1, 0)) i0 i1
    rw [← hT] at hs
    have hy : ∃ o, (setsL t (L.take j) fun r => (r.1, 0))[x.toNat]? = some ((recAt t x).1, o) := by
      rw [hsg]
      split
      · exact ⟨_, rfl⟩
      · exact ⟨(recAt t x).2, rfl⟩
    obtain ⟨o, hy⟩ := hy
    simp (maxSteps := 2000000) -implicitDefEqProofs only [zz, zE, evop, ev, ofVal, tget, tput, ok, V.isUndef, intBin, Ch.on, told, hget, hput, V.cells, D.cells, V.one, V.clo, clos, loadD, structAt, Blk.width, splice, D.over, ↓reduceIte, reduceCtorEq, Nat.reduceLT, Nat.reduceEqDiff, Nat.reduceAdd, Nat.reduceLeDiff, nilTest, dI, dW, h', List.getElem?_map, hx, hy, Option.map_some, Int.natCast_nonneg, i0, hw]
    refine ⟨i1, ?_⟩
    rw [hs, List.map_set]
    exact Weak.trims 1 rfl (by simp [tget, V.lower]) (by simp [Blk.lower])
  · have h' : ¬ ((L.length : Int) < (L.length : Int)) := by omega
    have hlen := setsL_len t L (fun r => (r.1, 0))
    rw [List.take_length]
    simp (maxSteps := 2000000) -implicitDefEqProofs only [zz, evop, ev, tget, tput, ok, V.isUndef, intBin, Ch.on, told, xport, hget, resOf, resV, resVs, ↓reduceIte, Nat.reduceLT, Nat.reduceEqDiff, nilTest, h']
    rw [List.take_of_length_le (by simp [hlen])]
end Go.Proofs.YtjhfpabldidlgaaGreat.AM

set_option linter.all false
set_option maxRecDepth 100000
set_option maxHeartbeats 4000000
namespace Go.Proofs.YtjhfpabldidlgaaGreat.AM
open Go Go.RowKit

def placeR (l : List Rd) (c : Int) : Int := idxOf (fun r => r.1 == c) l

theorem placeR_cases (l : List Rd) (c : Int) : (placeR l c = -1 ∧ l.find? (fun x => x.1 == c) = none) ∨ ∃ (j : Nat) (x : Rd), placeR l c = j ∧ l[j]? = some x ∧ x.1 = c ∧ l.find? (fun x => x.1 == c) = some x ∧ ∀ k < j, ∀ y, l[k]? = some y → y.1 ≠ c := by
  unfold placeR idxOf
  cases h : l.findIdx? (fun r => r.1 == c) with
  | none =>
    left
    refine ⟨rfl, ?_⟩
    rw [List.findIdx?_eq_none_iff] at h
    rw [List.find?_eq_none]
    intro x hx
    have := h x hx
    simpa using this
  | some j =>
    right
    rw [List.findIdx?_eq_some_iff_getElem] at h
    obtain ⟨h1, h2, h3⟩ := h
    refine ⟨j, l[j], rfl, List.getElem?_eq_getElem h1, by simpa using h2, ?_, fun k hk y hy => ?_⟩
    · rw [List.find?_eq_some_iff_append]
      refine ⟨h2, l.take j, l.drop (j + 1), ?_, fun a ha => ?_⟩
      · rw [← List.drop_eq_getElem_cons h1, List.take_append_drop]
      · obtain ⟨k, hk, rfl⟩ := List.getElem_of_mem ha
        simp only [List.length_take] at hk
        rw [List.getElem_take]
        have := h3 k (by omega)
        simpa using this
    · have := h3 k hk
      have e := (List.getElem?_eq_some_iff.1 hy).2
      rw [e] at this
      simpa using this

theorem placeR_self {l : List Rd} {i : Nat} {x : Rd} (hn : (l.map fun r => r.1).Nodup) (hx : l[i]? = some x) : placeR l x.1 = i := by
  rcases placeR_cases l x.1 with ⟨h1, h2⟩ | ⟨j, y, h1, h2, h3, _, _⟩
  · rw [List.find?_eq_none] at h2
    have := h2 x (List.mem_of_getElem? hx)
    simp at this
  · rw [h1]
    have e1 : (l.map fun r => r.1)[i]? = some x.1 := by rw [List.getElem?_map, hx]; rfl
    have e2 : (l.map fun r => r.1)[j]? = some x.1 := by rw [List.getElem?_map, h2]; simp [h3]
    obtain ⟨q1, q2⟩ := List.getElem?_eq_some_iff.1 e1
    obtain ⟨q3, q4⟩ := List.getElem?_eq_some_iff.1 e2
    have := (List.getElem_inj hn).1 (q4.trans q2.symm)
    omega

theorem readsR_of {l : List Rd} (h : ∀ (j : Nat) (x : Rd), l[j]? = some x → rightRd x = true ∧ placeR l x.1 = j) (hl : l.length ≤ 24) : readsR l = true := by
  refine readsR_parts.2 ⟨fun x hx => ?_, ?_, hl⟩
  · obtain ⟨j, hj, rfl⟩ := List.getElem_of_mem hx
    exact (h j _ (List.getElem?_eq_getElem hj)).1
  · rw [List.Nodup, List.pairwise_iff_getElem]
    intro i j hi hj hij e
    have hi' : i < l.length := by simpa using hi
    have hj' : j < l.length := by simpa using hj
    simp only [List.getElem_map] at e
    have h1 := (h i _ (List.getElem?_eq_getElem hi')).2
    have h2 := (h j _ (List.getElem?_eq_getElem hj')).2
    rw [e, h2] at h1
    omega

theorem readsR_not {l : List Rd} {i : Nat} {x : Rd} (hx : l[i]? = some x) (h : rightRd x = false ∨ placeR l x.1 ≠ i) : readsR l = false := by
  cases hr : readsR l with
  | false => rfl
  | true =>
    obtain ⟨h1, h2, _⟩ := readsR_parts.1 hr
    rcases h with h | h
    · rw [h1 x (List.mem_of_getElem? hx)] at h; cases h
    · exact absurd (placeR_self h2 hx) h

def findR (l : List Rd) (c : Int) : Rd × Bool := if readsR l = true then (match l.find? (fun x => x.1 == c) with | some x => (x, true) | none => ((0, 0, 0), false)) else ((0, 0, 0), false)

theorem readsR_one {r : Rd} (h : rightRd r = true) : readsR [r] = true := readsR_parts.2 ⟨by simpa using h, by simp, by simp⟩
end Go.Proofs.YtjhfpabldidlgaaGreat.AM

set_option linter.all false
set_option maxRecDepth 100000
set_option maxHeartbeats 4000000
namespace Go.Proofs.YtjhfpabldidlgaaGreat.AM
open Go Go.RowKit

theorem c_place1 (r : Rd) (c : Int) : CSpec Tryz.prog 136 [dRd r, .imm (.agg [.int .i64 c]) 0] (.bool (r.1 == c)) := by
  refine CSpec.of_awp envOf_ok hmix Tryz.func136 rfl (fun args w => Tryz.call136 args w) (by simp [Tryz.f136]) ?_
  simp only [Tryz.f136]
  simp (maxSteps := 2000000) -implicitDefEqProofs only [zz, zE, evop, ev, ofVal, tget, tput, ok, V.isUndef, intBin, initT, Ch.on, xport, hget, hput, V.cells, D.cells, loadD, structAt, Blk.width, resOf, resV, resVs, ↓reduceIte, reduceCtorEq, Nat.reduceLT, Nat.reduceEqDiff, Nat.reduceAdd, nilTest, dRd]

theorem c_place (l : List Rd) (c : Int) (hl : l.length ≤ 1000000) : CSpec Tryz.prog 81 [.vec (l.map dRd), .int .i64 c] (.int .i64 (placeR l c)) := by
  refine CSpec.of_awp envOf_ok hmix Tryz.func81 rfl (fun args w => Tryz.call81 args w) (by simp [Tryz.f81]) ?_
  simp only [Tryz.f81]
  simp (maxSteps := 2000000) -implicitDefEqProofs only [zz, zE, evop, ev, ofVal, tget, tput, ok, V.isUndef, initT, Ch.on, calleeOf, withArgs, hput, V.cells, ↓reduceIte, reduceCtorEq, Nat.reduceLT, Nat.reduceEqDiff]
  refine acall_flat' (c_IndexFunc_Rd l _ [.imm (.agg [.int .i64 c]) 0] (fun r => r.1 == c) hl (by simp) (fun n _ => c_place1 n c)) rfl ?_
  try simp (maxSteps := 2000000) -implicitDefEqProofs only [zz, evop, ev, tget, tput, ok, V.isUndef, Ch.on, xport, resOf, resV, resVs, ↓reduceIte, Nat.reduceLT]
  rfl

theorem c_reads_Right (l : List Rd) (hl : l.length ≤ 1000000) : CSpec Tryz.prog 26 [.vec (l.map dRd)] (.bool (readsR l)) := by
  refine CSpec.of_awp envOf_ok hmix Tryz.func26 rfl (fun args w => Tryz.call26 args w) (by simp [Tryz.f26]) ?_
  simp only [Tryz.f26]
  simp (maxSteps := 2000000) -implicitDefEqProofs only [zz, zE, evop, ev, ofVal, tget, tput, ok, V.isUndef, initT, Ch.on, sliceOf, lenOf, ↓reduceIte, reduceCtorEq, Nat.reduceLT]
  refine wloop_count l.length (fun i => [(7, .d (.int .i64 i)), (6, .d (.int .i64 l.length)), (5, .d (.vec (l.map dRd))), (0, .d (.vec (l.map dRd)))]) (fun _ => []) (fun i => ∀ (j : Nat) (x : Rd), j < i → l[j]? = some x → rightRd x = true ∧ placeR l x.1 = j) (fun j x hj => by omega) (Weak.sub (by simp [tget])) (fun i hi hI => ?_) (fun hI => ?_)
  · have hx : l[i]? = some l[i] := List.getElem?_eq_getElem hi
    have h' : ((i : Int) < (l.length : Int)) := by omega
    have hw : IntKind.i64.wrap ((i : Int) + 1) = ((i + 1 : Nat) : Int) := by rw [wrap_in (by omega)]; omega
    have hnot := fun h => readsR_not hx h
    simp (maxSteps := 2000000) -implicitDefEqProofs only [zz, zE, evop, ev, ofVal, tget, tput, ok, V.isUndef, intBin, guardOf, Ch.on, calleeOf, withArgs, told, xport, hget, hput, V.cells, D.cells, V.one, loadD, structAt, Blk.width, splice, resOf, resV, resVs, ↓reduceIte, reduceCtorEq, Nat.reduceLT, Nat.reduceEqDiff, Nat.reduceAdd, Nat.reduceLeDiff, nilTest, dRd, h', List.getElem?_map, hx, Option.map_some, Int.natCast_nonneg]
    by_cases h1 : l[i].1 < 0
    · simp (maxSteps := 2000000) -implicitDefEqProofs only [zz, ↓reduceIte, h1]
      rw [hnot (.inl (by have : ¬ 0 ≤ l[i].1 := by omega
                         simp [rightRd, this]))]
    simp (maxSteps := 2000000) -implicitDefEqProofs only [zz, ↓reduceIte, h1]
    refine acall_flat' (c_tick_Right l[i].2.1) rfl ?_
    try simp (maxSteps := 2000000) -implicitDefEqProofs only [zz, zE, evop, ev, ofVal, tget, tput, ok, V.isUndef, guardOf, Ch.on, calleeOf, withArgs, told, xport, hget, structAt, Blk.width, resOf, resV, resVs, ↓reduceIte, reduceCtorEq, Nat.reduceLT, Nat.reduceEqDiff, Nat.reduceAdd]
    cases h2 : tickR l[i].2.1 with
    | false =>
      simp (maxSteps := 2000000) -implicitDefEqProofs only [zz, ↓reduceIte]
      rw [hnot (.inl (by simp [rightRd, h2]))]
    | true =>
      simp (maxSteps := 2000000) -implicitDefEqProofs only [zz, ↓reduceIte]
      refine acall_flat' (c_span_Right l[i].2.2) rfl ?_
      try simp (maxSteps := 2000000) -implicitDefEqProofs only [zz, zE, evop, ev, ofVal, tget, tput, ok, V.isUndef, guardOf, Ch.on, calleeOf, withArgs, told, xport, hget, structAt, Blk.width, resOf, resV, resVs, ↓reduceIte, reduceCtorEq, Nat.reduceLT, Nat.reduceEqDiff, Nat.reduceAdd]
      cases h3 : spanR l[i].2.2 with
      | false =>
        simp (maxSteps := 2000000) -implicitDefEqProofs only [zz, ↓reduceIte]
        rw [hnot (.inl (by simp [rightRd, h3]))]
      | true =>
        simp (maxSteps := 2000000) -implicitDefEqProofs only [zz, ↓reduceIte]
        refine acall_flat' (c_place l l[i].1 hl) rfl ?_
        try simp (maxSteps := 2000000) -implicitDefEqProofs only [zz, evop, ev, ofVal, tget, tput, ok, V.isUndef, intBin, guardOf, Ch.on, told, xport, resOf, resV, resVs, ↓reduceIte, Nat.reduceLT, Nat.reduceEqDiff, nilTest]
        have hr : rightRd l[i] = true := by have : 0 ≤ l[i].1 := by omega
                                            simp [rightRd, h2, h3, this]
        by_cases h4 : placeR l l[i].1 = i
        · have e4 : (placeR l l[i].1 != (i : Int)) = false := by simpa using h4
          simp (maxSteps := 2000000) -implicitDefEqProofs only [zz, ↓reduceIte, e4, hw]
          refine ⟨fun j x hj hxj => ?_, Weak.trims 0 rfl (by simp [tget, V.lower]) (by simp)⟩
          by_cases e : j = i
          · subst e; rw [hx] at hxj; cases hxj; exact ⟨hr, h4⟩
          · exact hI j x (by omega) hxj
        · have e4 : (placeR l l[i].1 != (i : Int)) = true := by simpa using h4
          simp (maxSteps := 2000000) -implicitDefEqProofs only [↓reduceIte, e4]
          rw [hnot (.inr h4)]
  · have h' : ¬ ((l.length : Int) < (l.length : Int)) := by omega
    simp (maxSteps := 2000000) -implicitDefEqProofs only [zz, zE, evop, ev, ofVal, tget, tput, ok, V.isUndef, intBin, Ch.on, told, xport, sliceOf, lenOf, resOf, resV, resVs, ↓reduceIte, reduceCtorEq, Nat.reduceLT, Nat.reduceEqDiff, nilTest, h']
    by_cases h24 : l.length ≤ 24
    · rw [readsR_of (fun j x hx => hI j x (List.getElem?_eq_some_iff.1 hx).1 hx) h24]
      have : ((l.length : Int) ≤ 24) := by omega
      simp [this]
    · have : readsR l = false := by simp [readsR, h24]
      rw [this]
      have : ¬ ((l.length : Int) ≤ 24) := by omega
      simp [this]

theorem c_reads_Find (l : List Rd) (c : Int) (hl : l.length ≤ 1000000) : CSpec Tryz.prog 169 [.vec (l.map dRd), .int .i64 c] (.tuple [dRd (findR l c).1, .bool (findR l c).2]) := by
  refine CSpec.of_awp envOf_ok hmix Tryz.func169 rfl (fun args w => Tryz.call169 args w) (by simp [Tryz.f169]) ?_
  simp only [Tryz.f169]
  simp (maxSteps := 2000000) -implicitDefEqProofs only [zz, zE, evop, ev, ofVal, tget, tput, ok, V.isUndef, initT, Ch.on, calleeOf, withArgs, hput, ↓reduceIte, reduceCtorEq, Nat.reduceLT, Nat.reduceEqDiff, dRd]
  refine acall_flat' (c_place l c hl) rfl ?_
  try simp (maxSteps := 2000000) -implicitDefEqProofs only [zz, zE, evop, ev, ofVal, tget, tput, ok, V.isUndef, intBin, guardOf, Ch.on, calleeOf, withArgs, told, xport, xports, hget, hput, V.cells, V.one, partsV, splice, resOf, resV, resVs, ↓reduceIte, reduceCtorEq, Nat.reduceLT, Nat.reduceEqDiff, Nat.reduceAdd, Nat.reduceLeDiff, nilTest]
  unfold findR
  rcases placeR_cases l c with ⟨h1, h2⟩ | ⟨j, x, h1, h2, h3, h4, _⟩
  · rw [h1, h2]
    have hneg : ((-1 : Int) < 0) := by decide
    simp (maxSteps := 2000000) -implicitDefEqProofs only [zz, ↓reduceIte, Int.reduceNeg, hneg]
    simp
  · have hj : ¬ ((j : Int) < 0) := by omega
    rw [h1, h4]
    simp (maxSteps := 2000000) -implicitDefEqProofs only [zz, ↓reduceIte, hj]
    refine acall_flat' (c_reads_Right l hl) rfl ?_
    try simp (maxSteps := 2000000) -implicitDefEqProofs only [zz, zE, evop, ev, ofVal, tget, tput, ok, V.isUndef, guardOf, Ch.on, told, xport, xports, hget, hput, V.cells, D.cells, V.one, partsV, splice, resOf, resV, resVs, ↓reduceIte, reduceCtorEq, Nat.reduceLT, Nat.reduceEqDiff, Nat.reduceAdd, Nat.reduceLeDiff]
    cases hr : readsR l with
    | false =>
      simp (maxSteps := 2000000) -implicitDefEqProofs only [zz, ↓reduceIte]
      try simp
    | true =>
      simp (maxSteps := 2000000) -implicitDefEqProofs only [zz, zE, evop, ev, ofVal, tget, tput, ok, V.isUndef, Ch.on, xport, xports, hget, hput, V.cells, D.cells, V.one, loadD, splice, resOf, resV, resVs, ↓reduceIte, Nat.reduceLT, Nat.reduceEqDiff, Nat.reduceAdd, Nat.reduceLeDiff, dRd, List.getElem?_map, h2, Option.map_some, Int.natCast_nonneg]
      try simp

theorem c_reads_Add (l : List Rd) (r : Rd) (hl : l.length < 24) (hr : readsR l = true) (hx : rightRd r = true) (hf : l.find? (fun x => x.1 == r.1) = none) : CSpec Tryz.prog 170 [.vec (l.map dRd), dRd r] (.tuple [.vec ((l ++ [r]).map dRd), .int .i64 0]) := by
  refine CSpec.of_awp envOf_ok hmix Tryz.func170 rfl (fun args w => Tryz.call170 args w) (by simp [Tryz.f170]) ?_
  simp only [Tryz.f170]
  simp (maxSteps := 2000000) -implicitDefEqProofs only [zz, zE, evop, ev, ofVal, tget, tput, ok, V.isUndef, initT, Ch.on, calleeOf, withArgs, hput, V.cells, ↓reduceIte, reduceCtorEq, Nat.reduceLT, dRd]
  refine acall_flat' (c_reads_Right l (by omega)) rfl ?_
  try simp (maxSteps := 2000000) -implicitDefEqProofs only [zz, zE, evop, ev, ofVal, tget, tput, ok, V.isUndef, guardOf, Ch.on, calleeOf, withArgs, told, xport, xports, hget, hput, V.cells, D.cells, V.one, V.clo, clos, V.toD, sliceOf, partsD, resOf, resV, resVs, ↓reduceIte, reduceCtorEq, Nat.reduceLT, Nat.reduceEqDiff, Nat.reduceAdd, Nat.reduceMul, Nat.reduceLeDiff]
  simp (maxSteps := 2000000) -implicitDefEqProofs only [zz, ↓reduceIte, hr]
  have h1 := c_reads_Right [r] (by simp)
  rw [readsR_one hx] at h1
  refine acall_flat' (h1) rfl ?_
  try simp (maxSteps := 2000000) -implicitDefEqProofs only [zz, zE, evop, ev, tget, tput, ok, V.isUndef, guardOf, Ch.on, calleeOf, withArgs, told, hget, structAt, Blk.width, ↓reduceIte, reduceCtorEq, Nat.reduceLT, Nat.reduceEqDiff, Nat.reduceAdd]
  refine acall_flat' (c_place l r.1 (by omega)) rfl ?_
  try simp (maxSteps := 2000000) -implicitDefEqProofs only [zz, evop, ev, tget, tput, ok, V.isUndef, Ch.on, ↓reduceIte, Nat.reduceLT]
  have hp : placeR l r.1 = -1 := by
    rcases placeR_cases l r.1 with ⟨h1, _⟩ | ⟨j, x, _, _, _, h4, _⟩
    · exact h1
    · rw [hf] at h4; cases h4
  rw [hp]
  have hneg : ((-1 : Int) ≥ 0) = False := by simp
  refine wdraw_plan [⟨[], true, [], [], false⟩, ⟨[0], true, [], [], false⟩, ⟨[0, 1], true, [], [], false⟩, ⟨[0, 1, 2], false, [26, 29], [], false⟩, ⟨[0, 1, 2], false, [25, 29], [3], false⟩, ⟨[0, 1, 2, 3, 4], false, [29], [], false⟩, ⟨[0, 1, 2, 3, 4, 5], false, [29], [], false⟩, ⟨[0, 1, 2], false, [25, 26, 27, 28], [3, 4, 5, 6], false⟩, ⟨[0, 1, 2, 3, 4, 5, 6, 7], false, [], [], false⟩, ⟨[0, 1, 2, 3, 4, 5, 6, 7, 8], true, [], [], false⟩, ⟨[0, 1, 2, 3, 4, 5, 6, 7, 8, 9], true, [], [], false⟩] (by decide) ?_
  simp (maxSteps := 2000000) -implicitDefEqProofs only [zz, zE, evop, ev, ofVal, tget, tput, ok, V.isUndef, intBin, guardOf, Ch.on, told, xport, xports, hput, sliceOf, lenOf, resOf, resV, resVs, ↓reduceIte, reduceCtorEq, Nat.reduceLT, Nat.reduceEqDiff, Nat.reduceAdd, Nat.reduceSub, Int.reduceNeg, nilTest, hneg]
  have h24 : ((l.length : Int) == 24) = false := by simp; omega
  simp (maxSteps := 2000000) -implicitDefEqProofs only [zz, ↓reduceIte, Int.reduceNeg, h24]
  refine wdraw_plan [⟨[], false, [44, 45], [], false⟩, ⟨[0], false, [44, 45], [], false⟩, ⟨[], false, [42, 43], [0, 1], false⟩, ⟨[2], false, [42, 43], [0, 1], false⟩, ⟨[0, 1, 2, 3], true, [], [], false⟩, ⟨[0, 1, 2, 3, 4], true, [], [], false⟩, ⟨[0, 1, 2, 3, 4, 5], true, [], [], false⟩] (by decide) ?_
  simp (maxSteps := 2000000) -implicitDefEqProofs only [zz, zE, evop, ev, ofVal, tget, tput, ok, V.isUndef, calleeOf, withArgs, hget, hput, V.cells, D.cells, V.one, V.clo, clos, V.toD, sliceOf, partsD, elems, ↓reduceIte, reduceCtorEq, Nat.reduceLT, Nat.reduceEqDiff, Nat.reduceAdd, Nat.reduceMul, Nat.reduceLeDiff, Int.reduceNeg]
  have hc := o_Clone_Rd (l.map dRd) (by simp; omega) (okEl_Rd _)
  rw [List.length_map] at hc
  refine dcall_own' (hc) rfl ?_
  try simp (maxSteps := 2000000) -implicitDefEqProofs only [zz, evop, ev, ofVal, tget, tput, ok, V.isUndef, Ch.on, xport, xports, hget, hput, resOf, resV, resVs, ↓reduceIte, Nat.reduceLT, Nat.reduceEqDiff, Nat.reduceAdd, Int.reduceNeg, V.ren]
  refine ⟨⟨by omega, okEl_Rd [r]⟩, ?_⟩
  have ht : List.take l.length (List.map dRd l) = l.map dRd := by rw [List.take_of_length_le]; simp
  simp [ht]
  rw [List.take_of_length_le (by simp)]
  rfl
end Go.Proofs.YtjhfpabldidlgaaGreat.AM

set_option linter.all false
set_option maxRecDepth 100000
set_option maxHeartbeats 8000000
namespace Go.Proofs.YtjhfpabldidlgaaGreat.AM
open Go Go.RowKit

theorem c_Stamp1 (t : List (Int × Int)) (v i : Int) (h0 : 0 ≤ i) (h1 : i < t.length) : CSpec Tryz.prog 96 [.int .i64 i, .imm (.agg [.vec (t.map dW)]) 0, .imm (.agg [.int .i64 v]) 0] (.bool (decide (v ≤ (recAt t i).1))) := by
  have hr := recAt_int h0 h1
  refine CSpec.of_awp envOf_ok hmix Tryz.func96 rfl (fun args w => Tryz.call96 args w) (by simp [Tryz.f96]) ?_
  simp only [Tryz.f96]
  simp (maxSteps := 2000000) -implicitDefEqProofs only [zz, evop, ev, ofVal, tput, ok, V.isUndef, initT, Ch.on, ↓reduceIte, Nat.reduceLT, Nat.reduceAdd]
  refine wdraw_plan [⟨[], false, [6, 10], [], false⟩, ⟨[], false, [5, 10], [0], false⟩, ⟨[0, 1], false, [10], [], false⟩, ⟨[0, 1, 2], false, [10], [], false⟩, ⟨[0, 1, 2, 3], false, [10], [], false⟩, ⟨[], false, [5, 6, 7, 8, 9], [0, 1, 2, 3, 4], false⟩, ⟨[0, 1, 2, 3, 4, 5], true, [], [], false⟩, ⟨[0, 1, 2, 3, 4, 5, 6], true, [], [], false⟩] (by decide) ?_
  simp (maxSteps := 2000000) -implicitDefEqProofs only [zz, zE, evop, ev, tget, tput, ok, V.isUndef, intBin, Ch.on, xport, hput, V.cells, D.cells, V.isAgg, loadD, structAt, Blk.width, resOf, resV, resVs, ↓reduceIte, reduceCtorEq, Nat.reduceLT, Nat.reduceEqDiff, Nat.reduceAdd, Nat.reduceLeDiff, dW, List.getElem?_map, hr, Option.map_some, h0]

theorem c_Stamp (t : List (Int × Int)) (who v : Int) (hl : t.length ≤ 1000000) : CSpec Tryz.prog 46 [.vec (t.map dW), .int .i64 who, .int .i64 v] (.tuple [.vec ((stampR t who v).1.map dW), .int .i64 (stampR t who v).2]) := by
  have hcl := o_Clone_R (t.map dW) (by simp; omega) (okEl_W _)
  rw [List.length_map] at hcl
  have hh := c_Held t who
  have hin : ∀ i ∈ heldR t who, 0 ≤ i ∧ i < t.length := fun i h => by have := heldR_mem.1 h; exact ⟨this.2.1, this.2.2.1⟩
  have hlen : (heldR t who).length ≤ t.length := by unfold heldR; split; exact heldN_len ..; simp
  have hS : stampR t who v = if (tableR t && whoB who) = true then (if v < 0 ∨ 2147483647 < v ∨ (heldR t who).any (fun i => decide (v ≤ (recAt t i).1)) = true then (t, 6) else (setsL t (heldR t who) fun _ => (v, 0), 0)) else (t, 1) := rfl
  generalize stampR t who v = z at hS ⊢
  generalize heldR t who = L at hh hin hlen hS
  refine CSpec.of_awp envOf_ok hmix Tryz.func46 rfl (fun args w => Tryz.call46 args w) (by simp [Tryz.f46]) ?_
  simp only [Tryz.f46]
  simp (maxSteps := 2000000) -implicitDefEqProofs only [zz, zE, evop, ev, ofVal, tget, tput, ok, V.isUndef, initT, Ch.on, calleeOf, withArgs, hget, hput, V.cells, ↓reduceIte, reduceCtorEq, Nat.reduceLT, Nat.reduceEqDiff, Nat.reduceAdd]
  refine acall_ice' (hh) ?_
  try simp (maxSteps := 2000000) -implicitDefEqProofs only [zz, zE, evop, ev, tget, tput, ok, V.isUndef, Ch.on, calleeOf, withArgs, tids, tidss, hget, freeze, ↓reduceIte, Nat.reduceLT, Nat.reduceEqDiff]
  refine acall_flat' (c_stripe_Right t) rfl ?_
  try simp (maxSteps := 2000000) -implicitDefEqProofs only [zz, zE, evop, ev, ofVal, tget, tput, ok, V.isUndef, guardOf, Ch.on, calleeOf, withArgs, told, xport, xports, hget, resOf, resV, resVs, ↓reduceIte, reduceCtorEq, Nat.reduceLT, Nat.reduceEqDiff]
  cases h1 : tableR t with
  | false =>
    rw [h1] at hS
    obtain rfl : z = (t, 1) := by rw [hS]; simp
    simp (maxSteps := 2000000) -implicitDefEqProofs only [zz, ↓reduceIte]
  | true =>
  simp (maxSteps := 2000000) -implicitDefEqProofs only [zz, ↓reduceIte]
  have hwb := c_somebody who
  refine acall_flat' (hwb) rfl ?_
  try simp (maxSteps := 2000000) -implicitDefEqProofs only [zz, zE, evop, ev, ofVal, tget, tput, ok, V.isUndef, intBin, guardOf, Ch.on, calleeOf, withArgs, told, xport, xports, hget, resOf, resV, resVs, ↓reduceIte, Nat.reduceLT, Nat.reduceEqDiff, nilTest]
  cases h2 : (decide (1 ≤ who) && decide (who ≤ 8)) with
  | false =>
    have h2' : whoB who = false := h2
    rw [h1, h2'] at hS
    obtain rfl : z = (t, 1) := by rw [hS]; simp
    simp (maxSteps := 2000000) -implicitDefEqProofs only [zz, ↓reduceIte]
  | true =>
  have h2' : whoB who = true := h2
  have ht : (tableR t && whoB who) = true := by rw [h1, h2']; rfl
  rw [if_pos ht] at hS
  by_cases v0 : v < 0
  · rw [if_pos (.inl v0)] at hS
    subst hS
    simp (maxSteps := 2000000) -implicitDefEqProofs only [zz, ↓reduceIte, v0]
  by_cases v1 : v > 2147483647
  · rw [if_pos (.inr (.inl v1))] at hS
    subst hS
    simp (maxSteps := 2000000) -implicitDefEqProofs only [zz, ↓reduceIte, v0, v1]
  simp (maxSteps := 2000000) -implicitDefEqProofs only [zz, ↓reduceIte, v0, v1]
  refine acall_flat' (c_ContainsFunc_int L _ [.imm (.agg [.vec (t.map dW)]) 0, .imm (.agg [.int .i64 v]) 0] (fun i => decide (v ≤ (recAt t i).1)) (by omega) (by simp) (fun n hn => c_Stamp1 t v n (hin n hn).1 (hin n hn).2)) rfl ?_
  try simp (maxSteps := 2000000) -implicitDefEqProofs only [zz, zE, evop, ev, ofVal, tget, tput, ok, V.isUndef, Ch.on, calleeOf, withArgs, told, xport, xports, hget, resOf, resV, resVs, ↓reduceIte, Nat.reduceLT, Nat.reduceEqDiff]
  cases h3 : (L.any fun i => decide (v ≤ (recAt t i).1)) with
  | true =>
    rw [if_pos (.inr (.inr h3))] at hS
    subst hS
    simp (maxSteps := 2000000) -implicitDefEqProofs only [↓reduceIte]
  | false =>
  have hno : ¬ (v < 0 ∨ 2147483647 < v ∨ (L.any fun i => decide (v ≤ (recAt t i).1)) = true) := by rw [h3]; simp; omega
  rw [if_neg hno] at hS
  subst hS
  simp (maxSteps := 2000000) -implicitDefEqProofs only [zz, ↓reduceIte]
  refine acall_own' (hcl) ?_
  try simp (maxSteps := 2000000) -implicitDefEqProofs only [zz, zE, evop, ev, ofVal, tget, tput, ok, V.isUndef, Ch.on, tids, tidss, freeze, sliceOf, lenOf, ↓reduceIte, Nat.reduceLT, Nat.reduceEqDiff, Nat.reduceAdd, shiftH, Blk.ren, V.ren]
  refine wloop_count L.length (fun j => [(42, .d (.int .i64 j)), (41, .d (.int .i64 L.length)), (40, .d (.vec (L.map dI))), (5, .ptr 1 0 0), (9, .own 2 0 t.length)]) (fun j => [.box false [.d (.vec (t.map dW))], .box false [.d (.int .i64 v)], .dat false 2 ((setsL t (L.take j) fun _ => (v, 0)).map dW)]) (fun _ => True) trivial ?_ (fun j hj _ => ?_) (fun _ => ?_)
  · rw [List.take_zero, setsL_nil]
    exact Weak.trims 3 rfl (by simp [tget, V.lower]) (by simp [Blk.lower, lowerL, V.lower])
  · have hx : L[j]? = some L[j] := List.getElem?_eq_getElem hj
    have h' : ((j : Int) < (L.length : Int)) := by omega
    have hw : IntKind.i64.wrap ((j : Int) + 1) = ((j + 1 : Nat) : Int) := by rw [wrap_in (by omega)]; omega
    have hT : L.take (j + 1) = L.take j ++ [L[j]] := by rw [List.take_succ, hx]; rfl
    obtain ⟨i0, i1⟩ := hin _ (List.getElem_mem hj)
    generalize L[j] = x at hx hT i0 i1
    have hs := setsL_snoc (t := t) (L := L.take j) (g := fun _ => (v, 0)) i0 i1
    rw [← hT] at hs
    obtain ⟨y, hy⟩ : ∃ y, (setsL t (L.take j) fun _ => (v, 0))[x.toNat]? = some y := ⟨_, List.getElem?_eq_getElem (by rw [setsL_len]; omega)⟩
    simp (maxSteps := 2000000) -implicitDefEqProofs only [zz, zE, evop, ev, ofVal, tget, tput, ok, V.isUndef, intBin, Ch.on, told, hget, hput, V.cells, D.cells, V.one, V.clo, clos, loadD, partsV, splice, D.over, ↓reduceIte, Nat.reduceLT, Nat.reduceEqDiff, Nat.reduceAdd, Nat.reduceLeDiff, nilTest, dI, dW, h', List.getElem?_map, hx, hy, Option.map_some, Int.natCast_nonneg, i0, hw]
    refine ⟨i1, ?_⟩
    rw [hs, List.map_set]
    exact Weak.trims 3 rfl (by simp [tget, V.lower]) (by simp [Blk.lower, lowerL, V.lower])
  · have h' : ¬ ((L.length : Int) < (L.length : Int)) := by omega
    have hlen := setsL_len t L (fun _ => (v, 0))
    rw [List.take_length]
    simp (maxSteps := 2000000) -implicitDefEqProofs only [zz, evop, ev, ofVal, tget, tput, ok, V.isUndef, intBin, Ch.on, told, xport, xports, hget, resOf, resV, resVs, ↓reduceIte, Nat.reduceLT, Nat.reduceEqDiff, nilTest, h']
    rw [List.take_of_length_le (by simp [hlen])]

def staleR (t : List (Int × Int)) (who : Int) (r : Rd) : Bool := ((recAt t (r.1.tmod t.length)).1 != r.2.1) || (((recAt t (r.1.tmod t.length)).2 != 0) && ((recAt t (r.1.tmod t.length)).2 != who))
def validR (l : List Rd) (t : List (Int × Int)) (who : Int) : Int := if (readsR l && tableR t && whoB who) = true then (if l.any (staleR t who) = true then 8 else 0) else 1

theorem c_Valid (l : List Rd) (t : List (Int × Int)) (who : Int) (hl : l.length ≤ 1000000) : CSpec Tryz.prog 188 [.vec (l.map dRd), .vec (t.map dW), .int .i64 who] (.int .i64 (validR l t who)) := by
  have bad : (readsR l && tableR t && whoB who) = false → validR l t who = 1 := fun h => by simp only [validR, h]; simp
  refine CSpec.of_awp envOf_ok hmix Tryz.func188 rfl (fun args w => Tryz.call188 args w) (by simp [Tryz.f188]) ?_
  simp only [Tryz.f188]
  simp (maxSteps := 2000000) -implicitDefEqProofs only [zz, evop, ev, ofVal, tget, tput, ok, V.isUndef, initT, Ch.on, calleeOf, withArgs, ↓reduceIte, reduceCtorEq, Nat.reduceLT, Nat.reduceAdd]
  refine acall_flat' (c_reads_Right l hl) rfl ?_
  try simp (maxSteps := 2000000) -implicitDefEqProofs only [zz, evop, ev, ofVal, tget, tput, ok, V.isUndef, guardOf, Ch.on, calleeOf, withArgs, told, xport, resOf, resV, resVs, ↓reduceIte, reduceCtorEq, Nat.reduceLT, Nat.reduceEqDiff]
  cases h0 : readsR l with
  | false =>
    rw [bad (by simp [h0])]
    simp (maxSteps := 2000000) -implicitDefEqProofs only [zz, ↓reduceIte]
  | true =>
  simp (maxSteps := 2000000) -implicitDefEqProofs only [zz, ↓reduceIte]
  refine acall_flat' (c_stripe_Right t) rfl ?_
  try simp (maxSteps := 2000000) -implicitDefEqProofs only [zz, zE, evop, ev, ofVal, tget, tput, ok, V.isUndef, intBin, guardOf, Ch.on, told, xport, sliceOf, lenOf, resOf, resV, resVs, ↓reduceIte, reduceCtorEq, Nat.reduceLT, Nat.reduceEqDiff, nilTest]
  cases h1 : tableR t with
  | false =>
    rw [bad (by simp [h1])]
    simp (maxSteps := 2000000) -implicitDefEqProofs only [zz, ↓reduceIte]
  | true =>
  by_cases w1 : who < 1
  · rw [bad (by have : ¬ 1 ≤ who := by omega
                simp [whoB, this])]
    simp (maxSteps := 2000000) -implicitDefEqProofs only [zz, ↓reduceIte, w1]
  by_cases w2 : who > 8
  · rw [bad (by have : ¬ who ≤ 8 := by omega
                simp [whoB, this])]
    simp (maxSteps := 2000000) -implicitDefEqProofs only [zz, ↓reduceIte, w1, w2]
  have hwb : whoB who = true := by
    have a1 : 1 ≤ who := by omega
    have a2 : who ≤ 8 := by omega
    simp [whoB, a1, a2]
  have hv : validR l t who = if l.any (staleR t who) = true then 8 else 0 := by unfold validR; rw [h0, h1, hwb]; rfl
  have htl := tableR_len h1
  have hne : (t.length : Int) ≠ 0 := by omega
  simp (maxSteps := 2000000) -implicitDefEqProofs only [zz, ↓reduceIte, w1, w2]
  refine wloop_count l.length (fun i => [(28, .d (.int .i64 i)), (27, .d (.int .i64 l.length)), (26, .d (.vec (l.map dRd))), (1, .d (.vec (t.map dW))), (2, .d (.int .i64 who))]) (fun _ => []) (fun i => ∀ k < i, ∀ x, l[k]? = some x → staleR t who x = false) (fun j hj => by omega) (Weak.sub (by simp [tget])) (fun i hi hI => ?_) (fun hI => ?_)
  · have hx : l[i]? = some l[i] := List.getElem?_eq_getElem hi
    have h' : ((i : Int) < (l.length : Int)) := by omega
    have hw : IntKind.i64.wrap ((i : Int) + 1) = ((i + 1 : Nat) : Int) := by rw [wrap_in (by omega)]; omega
    have hmem : l[i] ∈ l := List.getElem_mem hi
    have hrr := (readsR_parts.1 h0).1 _ hmem
    generalize l[i] = x at hx hmem hrr
    have hx0 : 0 ≤ x.1 := by simp [rightRd] at hrr; exact hrr.1.1
    have m0 : 0 ≤ x.1.tmod t.length := Int.tmod_nonneg _ hx0
    have m1 : x.1.tmod t.length < t.length := Int.tmod_lt_of_pos _ (by omega)
    have hr := recAt_int m0 m1
    have yes : staleR t who x = true → validR l t who = 8 := fun h => by rw [hv, if_pos (List.any_eq_true.2 ⟨x, hmem, h⟩)]
    have no : staleR t who x = false → ∀ k < i + 1, ∀ z, l[k]? = some z → staleR t who z = false := fun h k hk z hz => by
      by_cases e : k = i
      · subst e; rw [hx] at hz; cases hz; exact h
      · exact hI k (by omega) z hz
    simp (maxSteps := 2000000) -implicitDefEqProofs only [zz, zE, evop, ev, ofVal, tget, tput, ok, V.isUndef, intBin, guardOf, Ch.on, told, xport, hget, hput, V.cells, D.cells, V.one, loadD, structAt, sliceOf, Blk.width, lenOf, splice, resOf, resV, resVs, ↓reduceIte, reduceCtorEq, Nat.reduceLT, Nat.reduceEqDiff, Nat.reduceAdd, Nat.reduceLeDiff, nilTest, dW, dRd, h', List.getElem?_map, hx, hr, Option.map_some, Int.natCast_nonneg, hw]
    refine ⟨hne, m0, ?_⟩
    by_cases a1 : (recAt t (x.1.tmod t.length)).1 = x.2.1
    case neg =>
      have e1 : ((recAt t (x.1.tmod t.length)).1 != x.2.1) = true := by simpa using a1
      rw [yes (by simp only [staleR, e1, Bool.true_or])]
      simp (maxSteps := 2000000) -implicitDefEqProofs only [zz, ↓reduceIte, e1]
    have e1 : ((recAt t (x.1.tmod t.length)).1 != x.2.1) = false := by simpa using a1
    by_cases a2 : (recAt t (x.1.tmod t.length)).2 = 0
    · have e2 : ((recAt t (x.1.tmod t.length)).2 != 0) = false := by simpa using a2
      simp (maxSteps := 2000000) -implicitDefEqProofs only [zz, ↓reduceIte, e1, e2]
      exact ⟨no (by simp only [staleR, e1, e2, Bool.false_and, Bool.false_or]), Weak.trims 0 rfl (by simp [tget, V.lower]) (by simp)⟩
    have e2 : ((recAt t (x.1.tmod t.length)).2 != 0) = true := by simpa using a2
    by_cases a3 : (recAt t (x.1.tmod t.length)).2 = who
    · have e3 : ((recAt t (x.1.tmod t.length)).2 != who) = false := by simpa using a3
      simp (maxSteps := 2000000) -implicitDefEqProofs only [zz, ↓reduceIte, e1, e2, e3]
      exact ⟨no (by simp only [staleR, e1, e2, e3, Bool.and_false, Bool.false_or]), Weak.trims 0 rfl (by simp [tget, V.lower]) (by simp)⟩
    · have e3 : ((recAt t (x.1.tmod t.length)).2 != who) = true := by simpa using a3
      rw [yes (by simp only [staleR, e1, e2, e3, Bool.and_self, Bool.or_true])]
      simp (maxSteps := 2000000) -implicitDefEqProofs only [↓reduceIte, e1, e2, e3]
  · have h' : ¬ ((l.length : Int) < (l.length : Int)) := by omega
    have hany : l.any (staleR t who) = false := by
      rw [List.any_eq_false]
      intro x hx
      obtain ⟨k, hk, rfl⟩ := List.getElem_of_mem hx
      have := hI k hk _ (List.getElem?_eq_getElem hk)
      simp [this]
    rw [hv, hany, if_neg (by decide)]
    simp (maxSteps := 2000000) -implicitDefEqProofs only [zz, evop, ev, ofVal, tget, tput, ok, V.isUndef, intBin, Ch.on, told, xport, resOf, resV, resVs, ↓reduceIte, Nat.reduceLT, Nat.reduceEqDiff, nilTest, h']
end Go.Proofs.YtjhfpabldidlgaaGreat.AM

set_option linter.all false
set_option maxRecDepth 100000
set_option maxHeartbeats 4000000
namespace Go.Proofs.YtjhfpabldidlgaaGreat.AM
open Go Go.RowKit

def bT (t : Ty) : Blk := .box false [.d (.int .i64 t.who), .d (.int .i64 t.snap), .d (.int .i64 t.pc), .d (.vec (t.regs.map dI)), .d (.vec (t.path.map dI)), .d (.vec (t.reads.map dRd)), .d (.vec (t.log.1.map dW)), .d (.vec (t.log.2.map dI)), .d (.vec (t.frames.map dFr)), .d (.int .i64 t.kind), .d (.int .i64 t.why)]

def bZ : Blk := .box false [.d (.int .i64 0), .d (.int .i64 0), .d (.int .i64 0), .nils, .nils, .nils, .nils, .nils, .nils, .d (.int .i64 0), .d (.int .i64 0)]

theorem okCells_Fr (l : List Fr) : ∀ e ∈ l.map dFr, (match e with
    | D.agg cs => cs
    | x => [x]).length = 4 := by
  intro e he
  obtain ⟨w, _, rfl⟩ := List.mem_map.1 he
  rfl

theorem logKeep_lens (l : Lg) : (logKeep l).1.1.length = l.1.length ∧ (logKeep l).1.2.length ≤ l.2.length := by
  unfold logKeep; split <;> simp

theorem c_settled (t : Ty) (c : List St) (h1 : t.log.1.length ≤ 1000000) (h2 : t.log.2.length ≤ 1000000) (h3 : t.frames.length ≤ 1000000) : CSpec Tryz.prog 54 [dT t, .vec (c.map dS)] (dT (setT c.length t)) := by
  refine CSpec.of_awp envOf_ok hmix Tryz.func54 rfl (fun args w => Tryz.call54 args w) (by simp [Tryz.f54]) ?_
  simp only [Tryz.f54]
  simp (maxSteps := 2000000) -implicitDefEqProofs only [zz, zE, evop, ev, tget, V.isUndef, initT, V.cells, ↓reduceIte]
  unfold dT tyC
  simp (maxSteps := 2000000) -implicitDefEqProofs only [zz, zE, evop, ev, tget, tput, ok, V.isUndef, Ch.on, hget, hput, structAt, sliceOf, Blk.width, lenOf, ↓reduceIte, reduceCtorEq, Nat.reduceLT, Nat.reduceEqDiff, Nat.reduceAdd]
  refine wloop_ind (σ := Ty × Nat) (fun z => z.2) (fun z => [(5, .d (.int .i64 z.2)), (2, .ptr 0 0 0), (4, .ptr 1 0 0), (1, .d (.vec (c.map dS)))]) (fun z => [bT z.1, bZ]) (fun z => setF z.2 z.1 = setF t.frames.length t ∧ z.1.frames.length = z.2 ∧ z.1.log.1.length ≤ 1000000 ∧ z.1.log.2.length ≤ 1000000 ∧ z.2 ≤ 1000000) (t, t.frames.length) ⟨rfl, rfl, h1, h2, h3⟩ ?_ ?_
  · exact Weak.trims 2 rfl (by simp [tget, V.lower]) (by simp [bT, bZ, Blk.lower, lowerL, V.lower])
  rintro ⟨u, n⟩ ⟨hs, hn, hl1, hl2, hl3⟩
  simp only at hs hn hl1 hl2 hl3
  have fin : setF n u = u → setT c.length t = doneT c.length u := fun e => by unfold setT; rw [← hs, e]
  rcases n with _ | k
  · have hfin := fin rfl
    refine wdraw_plan [⟨[], true, [], [], false⟩, ⟨[0], true, [], [], false⟩, ⟨[0, 1], true, [], [], false⟩, ⟨[0, 1, 2], false, [14, 15, 19, 20], [], false⟩, ⟨[0, 1, 2, 3], false, [14, 15, 19, 20], [], false⟩, ⟨[0, 1, 2], false, [12, 13, 19, 20], [3, 4], false⟩, ⟨[0, 1, 2, 5], false, [12, 13, 19, 20], [3, 4], false⟩, ⟨[0, 1, 2, 3, 4, 5, 6], false, [19, 20], [], false⟩, ⟨[0, 1, 2, 3, 4, 5, 6, 7], false, [19, 20], [], false⟩, ⟨[0, 1, 2, 3, 4, 5, 6, 7, 8], false, [19, 20], [], false⟩, ⟨[0, 1, 2], false, [12, 13, 14, 15, 16, 17, 18], [3, 4, 5, 6, 7, 8, 9], false⟩, ⟨[0, 1, 2, 10], false, [12, 13, 14, 15, 16, 17, 18], [3, 4, 5, 6, 7, 8, 9], false⟩, ⟨[0, 1, 2, 3, 4, 5, 6, 7, 8, 9, 10, 11], false, [], [], false⟩, ⟨[0, 1, 2, 3, 4, 5, 6, 7, 8, 9, 10, 11, 12], true, [], [], false⟩] (by decide) ?_
    simp (maxSteps := 2000000) -implicitDefEqProofs only [zz, zE, evop, ev, ofVal, tget, tput, ok, V.isUndef, intBin, guardOf, Ch.on, told, xport, xports, hget, hput, V.cells, V.one, structAt, sliceOf, Blk.width, lenOf, splice, resOf, resV, resVs, ↓reduceIte, reduceCtorEq, Nat.reduceLT, Nat.reduceEqDiff, Nat.reduceAdd, Nat.reduceSub, Nat.reduceLeDiff, nilTest, bT, bZ, Int.lt_irrefl]
    by_cases hd : u.pc = (c.length : Int)
    · have e : (u.pc == (c.length : Int)) = true := by simpa using hd
      rw [hfin, doneT, if_pos hd]
      simp (maxSteps := 2000000) -implicitDefEqProofs only [↓reduceIte, e]
    · have e : (u.pc == (c.length : Int)) = false := by simpa using hd
      rw [hfin, doneT, if_neg hd]
      simp (maxSteps := 2000000) -implicitDefEqProofs only [zz, ↓reduceIte, e]
  · obtain ⟨f, hx⟩ : ∃ f, u.frames[k]? = some f := ⟨_, List.getElem?_eq_getElem (by omega)⟩
    have hpos : (((k + 1 : Nat) : Int) > 0) := by omega
    have hwk : IntKind.i64.wrap (((k + 1 : Nat) : Int) - 1) = (k : Int) := by rw [wrap_in (by omega)]; omega
    refine wdraw_plan [⟨[], true, [], [], false⟩, ⟨[0], true, [], [], false⟩, ⟨[0, 1], true, [], [], false⟩, ⟨[0, 1, 2], false, [14, 15, 19, 20], [], false⟩, ⟨[0, 1, 2, 3], false, [14, 15, 19, 20], [], false⟩, ⟨[0, 1, 2], false, [12, 13, 19, 20], [3, 4], false⟩, ⟨[0, 1, 2, 5], false, [12, 13, 19, 20], [3, 4], false⟩, ⟨[0, 1, 2, 3, 4, 5, 6], false, [19, 20], [], false⟩, ⟨[0, 1, 2, 3, 4, 5, 6, 7], false, [19, 20], [], false⟩, ⟨[0, 1, 2, 3, 4, 5, 6, 7, 8], false, [19, 20], [], false⟩, ⟨[0, 1, 2], false, [12, 13, 14, 15, 16, 17, 18], [3, 4, 5, 6, 7, 8, 9], false⟩, ⟨[0, 1, 2, 10], false, [12, 13, 14, 15, 16, 17, 18], [3, 4, 5, 6, 7, 8, 9], false⟩, ⟨[0, 1, 2, 3, 4, 5, 6, 7, 8, 9, 10, 11], false, [], [], false⟩, ⟨[0, 1, 2, 3, 4, 5, 6, 7, 8, 9, 10, 11, 12], true, [], [], false⟩] (by decide) ?_
    simp (maxSteps := 2000000) -implicitDefEqProofs only [zz, zE, evop, ev, ofVal, tget, tput, ok, V.isUndef, intBin, guardOf, Ch.on, calleeOf, withArgs, told, xport, xports, hget, hput, V.cells, D.cells, V.isAgg, V.one, loadD, structAt, sliceOf, bound, Blk.width, lenOf, splice, resOf, resV, resVs, ↓reduceIte, reduceCtorEq, Nat.reduceLT, Nat.reduceEqDiff, Nat.reduceAdd, Nat.reduceSub, Nat.reduceLeDiff, nilTest, dFr, bT, bZ, hpos, hwk, List.getElem?_map, hx, Option.map_some, Int.natCast_nonneg]
    by_cases hm : f.mid = u.pc
    · have e : (f.mid == u.pc) = true := by simpa using hm
      have hdl : u.frames.dropLast = u.frames.take k := by rw [List.dropLast_eq_take, hn]; rfl
      have hw0 : IntKind.i64.wrap (k : Int) = (k : Int) := by rw [wrap_in (by omega)]
      have er : List.take ((k : Int) - 0).toNat (u.frames.map dFr) = u.frames.dropLast.map dFr := by
        rw [hdl, List.map_take]; simp
      have hk := c_W_Keep u.log hl1 hl2
      unfold dLE at hk
      obtain ⟨q1, q2⟩ := logKeep_lens u.log
      simp (maxSteps := 2000000) -implicitDefEqProofs only [↓reduceIte, e, er]
      refine ⟨⟨Int.le_refl _, by omega, okCells_Fr _⟩, ?_⟩
      refine acall_ice' (hk) ?_
      try simp (maxSteps := 2000000) -implicitDefEqProofs only [zz, zE, evop, ev, ofVal, tget, tput, ok, V.isUndef, intBin, Ch.on, tids, tidss, hget, hput, freeze, V.cells, V.one, structAt, Blk.width, splice, ↓reduceIte, reduceCtorEq, Nat.reduceLT, Nat.reduceEqDiff, Nat.reduceAdd, Nat.reduceLeDiff, nilTest, dLg]
      refine ⟨(popT u f, k), ⟨?_, ?_, ?_, ?_, ?_⟩, by simp only; omega, ?_⟩
      · rw [← hs, setF, hx]
        simp only
        rw [if_pos hm]
      · simp only [popT, hdl, List.length_take]; omega
      · simp only [popT]; omega
      · simp only [popT]; omega
      · simp only; omega
      · exact Weak.trims 2 rfl (by simp [tget, V.lower, hw0]) (by simp [bT, bZ, Blk.lower, lowerL, V.lower])
    · have e : (f.mid == u.pc) = false := by simpa using hm
      have hfin := fin (by rw [setF, hx]; simp only; rw [if_neg hm])
      simp (maxSteps := 2000000) -implicitDefEqProofs only [zz, ↓reduceIte, e]
      by_cases hd : u.pc = (c.length : Int)
      · have e : (u.pc == (c.length : Int)) = true := by simpa using hd
        rw [hfin, doneT, if_pos hd]
        simp (maxSteps := 2000000) -implicitDefEqProofs only [↓reduceIte, e]
      · have e : (u.pc == (c.length : Int)) = false := by simpa using hd
        rw [hfin, doneT, if_neg hd]
        simp (maxSteps := 2000000) -implicitDefEqProofs only [zz, ↓reduceIte, e]
end Go.Proofs.YtjhfpabldidlgaaGreat.AM

set_option linter.all false
set_option maxRecDepth 100000
set_option maxHeartbeats 4000000
namespace Go.Proofs.YtjhfpabldidlgaaGreat.AM
open Go Go.RowKit

theorem two_get {α : Type} {A B C : List α} {u v : α} {i j : Nat} (hi : A.length = i) (hj : i + 1 + B.length = j) : (A ++ u :: (B ++ v :: C))[i]? = some u ∧ (A ++ u :: (B ++ v :: C))[j]? = some v ∧ ((A ++ u :: (B ++ v :: C)).set i v)[j]? = some v ∧ ((A ++ u :: (B ++ v :: C)).set i v).set j u = A ++ v :: (B ++ u :: C) := by
  subst hi; subst hj
  have e1 : ∀ x : α, (A ++ x :: (B ++ v :: C))[A.length + 1 + B.length]? = some v := fun x => by
    rw [List.getElem?_append_right (by omega)]
    have : A.length + 1 + B.length - A.length = B.length + 1 := by omega
    rw [this, List.getElem?_cons_succ, List.getElem?_append_right (Nat.le_refl _), Nat.sub_self]; rfl
  have e2 : (A ++ u :: (B ++ v :: C)).set A.length v = A ++ v :: (B ++ v :: C) := by
    rw [List.set_append_right _ _ (Nat.le_refl _), Nat.sub_self]; rfl
  refine ⟨by rw [List.getElem?_append_right (Nat.le_refl _), Nat.sub_self]; rfl, e1 u, by rw [e2]; exact e1 v, ?_⟩
  rw [e2, List.set_append_right _ _ (by omega)]
  have : A.length + 1 + B.length - A.length = B.length + 1 := by omega
  rw [this, List.set_cons_succ, List.set_append_right _ _ (Nat.le_refl _), Nat.sub_self]; rfl

theorem set_dW' (l : List (Int × Int)) (i : Nat) (a : Int × Int) : (l.map dW).set i (.agg [.int .i64 a.1, .int .i64 a.2]) = (l.set i a).map dW := by
  rw [List.map_set]; rfl

theorem r_swapRange_W (Pre U M Y Post : List (Int × Int)) (N : Nat) (hN : (Pre ++ (U ++ (M ++ (Y ++ Post)))).length = N) (hN' : N ≤ 1000000) (hUV : U.length = Y.length) (b : Nat) (hb : b = Pre.length + U.length + M.length) (f : Nat) :
    RSpec Tryz.prog 240 [.own 0 0 N, .d (.int .i64 Pre.length), .d (.int .i64 b), .d (.int .i64 U.length), .func (f, 0) []] [.dat false 2 ((Pre ++ (U ++ (M ++ (Y ++ Post)))).map dW)] (.tuple [])
      [.dat false 2 ((Pre ++ (Y ++ (M ++ (U ++ Post)))).map dW)] := by
  refine RSpec.of_awp envOf_ok hmix Tryz.func240 rfl (fun args w => Tryz.call240 args w) (by simp [Tryz.f240]) ?_
  simp only [Tryz.f240]
  simp (maxSteps := 2000000) -implicitDefEqProofs only [zz, evop, ev, ofVal, tput, ok, V.isUndef, Ch.on, ↓reduceIte, Nat.reduceLT, Nat.reduceAdd, initV]
  simp only [List.length_append] at hN
  refine wloop_count U.length (fun i => [(10, .d (.int .i64 i)), (0, .own 0 0 N), (1, .d (.int .i64 Pre.length)), (2, .d (.int .i64 b)), (3, .d (.int .i64 U.length)), (4, .func (f, 0) [])])
    (fun i => [.dat false 2 ((Pre ++ ((Y.take i ++ U.drop i) ++ (M ++ ((U.take i ++ Y.drop i) ++ Post)))).map dW)]) (fun i => True) trivial (Weak.sub (by simp [tget])) (fun i hi _ => ?_) (fun _ => ?_)
  · have h' : ((i : Int) < (U.length : Int)) := by omega
    obtain ⟨u, hu⟩ : ∃ u, u = U[i] := ⟨_, rfl⟩
    obtain ⟨v, hv⟩ : ∃ v, v = Y[i]'(by omega) := ⟨_, rfl⟩
    have hL : Pre ++ ((Y.take i ++ U.drop i) ++ (M ++ ((U.take i ++ Y.drop i) ++ Post))) = (Pre ++ Y.take i) ++ u :: ((U.drop (i + 1) ++ M ++ U.take i) ++ v :: (Y.drop (i + 1) ++ Post)) := by
      rw [List.drop_eq_getElem_cons hi, List.drop_eq_getElem_cons (l := Y) (by omega), ← hu, ← hv]; simp
    have hL2 : Pre ++ ((Y.take (i + 1) ++ U.drop (i + 1)) ++ (M ++ ((U.take (i + 1) ++ Y.drop (i + 1)) ++ Post))) = (Pre ++ Y.take i) ++ v :: ((U.drop (i + 1) ++ M ++ U.take i) ++ u :: (Y.drop (i + 1) ++ Post)) := by
      rw [List.take_add_one (l := Y), List.take_add_one (l := U), List.getElem?_eq_getElem hi, List.getElem?_eq_getElem (l := Y) (by omega), ← hu, ← hv]; simp
    obtain ⟨g1, g2, g3, g4⟩ := two_get (A := Pre ++ Y.take i) (B := U.drop (i + 1) ++ M ++ U.take i) (C := Y.drop (i + 1) ++ Post) (u := u) (v := v) (i := Pre.length + i) (j := b + i) (by simp; omega) (by simp; omega)
    have hw1 : IntKind.i64.wrap ((Pre.length : Int) + (i : Int)) = ((Pre.length + i : Nat) : Int) := by rw [wrap_in (by omega)]; omega
    have hw2 : IntKind.i64.wrap ((b : Int) + (i : Int)) = ((b + i : Nat) : Int) := by rw [wrap_in (by omega)]; omega
    have hw3 : IntKind.i64.wrap ((i : Int) + 1) = ((i + 1 : Nat) : Int) := by rw [wrap_in (by omega)]; omega
    rw [hL, hL2]
    simp (maxSteps := 2000000) -implicitDefEqProofs only [zz, evop, ev, tget, tput, ok, V.isUndef, intBin, Ch.on, told, ↓reduceIte, reduceCtorEq, Nat.reduceLT, Nat.reduceEqDiff, nilTest, h']
    refine wdraw_plan [⟨[], false, [17, 18, 19, 20, 21, 22, 23, 24, 25, 26, 27, 28, 29, 30, 31, 32, 33, 34, 35], [], false⟩, ⟨[], false, [16, 18, 20, 21, 22, 23, 24, 25, 26, 27, 28, 29, 30, 31, 32, 33, 34, 35], [0], false⟩, ⟨[], false, [16, 17, 20, 21, 22, 23, 24, 25, 26, 27, 28, 29, 30, 31, 32, 33, 34, 35], [0, 1], false⟩, ⟨[1, 2], false, [16, 20, 21, 22, 23, 24, 25, 26, 27, 28, 29, 30, 31, 32, 33, 34, 35], [0], false⟩, ⟨[], false, [16, 17, 18, 19, 20, 21, 22, 23, 24, 25, 26, 27, 28, 29, 30, 31, 32, 33, 34, 35, 36], [0, 1, 2, 3], true⟩, ⟨[], false, [16, 17, 18, 19, 20, 21, 22, 23, 24, 25, 26, 27, 28, 29, 30, 31, 32, 33, 34, 35, 36], [0, 1, 2, 3, 4], true⟩, ⟨[], false, [16, 17, 18, 19, 20, 21, 22, 23, 24, 25, 26, 27, 28, 29, 30, 31, 32, 33, 34, 35, 36], [0, 1, 2, 3, 4, 5], true⟩, ⟨[5, 6], false, [16, 17, 18, 19, 20, 23, 24, 25, 26, 27, 28, 29, 30, 31, 32, 33, 34, 35, 36], [0, 1, 2, 3, 4], true⟩, ⟨[], false, [16, 17, 18, 19, 20, 21, 22, 23, 25, 26, 27, 30, 31, 32, 33, 34, 35], [0, 1, 2, 3, 4, 5, 6, 7], false⟩, ⟨[], false, [16, 17, 18, 19, 20, 21, 22, 23, 24, 26, 30, 31, 32, 33, 34, 35], [0, 1, 2, 3, 4, 5, 6, 7, 8], false⟩, ⟨[], false, [16, 17, 18, 19, 20, 21, 22, 23, 24, 25, 30, 31, 32, 33, 34, 35], [0, 1, 2, 3, 4, 5, 6, 7, 8, 9], false⟩, ⟨[9, 10], false, [16, 17, 18, 19, 20, 21, 22, 23, 24, 30, 31, 32, 33, 34, 35], [0, 1, 2, 3, 4, 5, 6, 7, 8], false⟩, ⟨[8, 9, 10, 11], false, [16, 17, 18, 19, 20, 21, 22, 23, 30, 31, 32, 33, 34, 35], [0, 1, 2, 3, 4, 5, 6, 7], false⟩, ⟨[8, 9, 10, 11, 12], false, [16, 17, 18, 19, 20, 21, 22, 23, 30, 31, 32, 33, 34, 35], [0, 1, 2, 3, 4, 5, 6, 7], false⟩, ⟨[], false, [16, 17, 18, 19, 20, 21, 22, 23, 24, 25, 26, 27, 28, 29, 31, 32, 33], [0, 1, 2, 3, 4, 5, 6, 7, 8, 9, 10, 11, 12, 13], false⟩, ⟨[], false, [16, 17, 18, 19, 20, 21, 22, 23, 24, 25, 26, 27, 28, 29, 30, 32], [0, 1, 2, 3, 4, 5, 6, 7, 8, 9, 10, 11, 12, 13, 14], false⟩, ⟨[], false, [16, 17, 18, 19, 20, 21, 22, 23, 24, 25, 26, 27, 28, 29, 30, 31], [0, 1, 2, 3, 4, 5, 6, 7, 8, 9, 10, 11, 12, 13, 14, 15], false⟩, ⟨[15, 16], false, [16, 17, 18, 19, 20, 21, 22, 23, 24, 25, 26, 27, 28, 29, 30], [0, 1, 2, 3, 4, 5, 6, 7, 8, 9, 10, 11, 12, 13, 14], false⟩, ⟨[14, 15, 16, 17], false, [16, 17, 18, 19, 20, 21, 22, 23, 24, 25, 26, 27, 28, 29], [0, 1, 2, 3, 4, 5, 6, 7, 8, 9, 10, 11, 12, 13], false⟩, ⟨[14, 15, 16, 17, 18], false, [16, 17, 18, 19, 20, 21, 22, 23, 24, 25, 26, 27, 28, 29], [0, 1, 2, 3, 4, 5, 6, 7, 8, 9, 10, 11, 12, 13], false⟩, ⟨[0, 1, 2, 3, 8, 9, 10, 11, 12, 13, 14, 15, 16, 17, 18, 19], false, [20, 21, 22, 23], [4, 5, 6, 7], false⟩, ⟨[0, 1, 2, 3, 8, 9, 10, 11, 12, 13, 14, 15, 16, 17, 18, 19, 20], true, [20, 21, 22, 23], [], false⟩, ⟨[0, 1, 2, 3, 4, 5, 6, 7, 8, 9, 10, 11, 12, 13, 14, 15, 16, 17, 18, 19, 20, 21], true, [], [], false⟩, ⟨[0, 1, 2, 3, 4, 5, 6, 7, 8, 9, 10, 11, 12, 13, 14, 15, 16, 17, 18, 19, 20, 21, 22], true, [], [], false⟩] (by decide) ?_
    simp (maxSteps := 2000000) -implicitDefEqProofs only [zz, zE, evop, ev, ofVal, tget, tput, ok, V.isUndef, intBin, Ch.on, hget, hput, V.cells, D.cells, V.isAgg, V.one, V.clo, clos, loadD, Blk.width, splice, D.over, ↓reduceIte, reduceCtorEq, Nat.reduceLT, Nat.reduceEqDiff, Nat.reduceAdd, Nat.reduceLeDiff, nilTest, dW, hw1, hw2, hw3, List.getElem?_map, g1, g2, g3, Option.map_some, Int.natCast_nonneg, set_dW', g4]
    refine ⟨by omega, by omega, by omega, by omega, Weak.trimsM 1 (by simp) rfl (by simp [tget, V.lower, lowerL]) (by simp [Blk.lower])⟩
  · have h' : ¬ ((U.length : Int) < (U.length : Int)) := by omega
    simp (maxSteps := 2000000) -implicitDefEqProofs only [zz, evop, ev, tget, tput, ok, V.isUndef, intBin, Ch.on, told, resOf, resVs, ↓reduceIte, reduceCtorEq, Nat.reduceLT, Nat.reduceEqDiff, nilTest, h']
    have : Y.take U.length = Y := List.take_of_length_le (by omega)
    have e2 : Y.drop U.length = [] := List.drop_of_length_le (by omega)
    rw [this, e2, List.drop_length, List.take_length, List.append_nil, List.append_nil]
    exact Weak.sub (by simp [tget])


theorem r_swapRange (Pre U M Y Post : List (Int × Int)) (N a b n : Nat) (hN : (Pre ++ (U ++ (M ++ (Y ++ Post)))).length = N) (hN' : N ≤ 1000000) (ha : a = Pre.length) (hn : n = U.length) (hUY : n = Y.length) (hb : b = Pre.length + U.length + M.length) (f : Nat) :
    RSpec Tryz.prog 240 [.own 0 0 N, .d (.int .i64 a), .d (.int .i64 b), .d (.int .i64 n), .func (f, 0) []] [.dat false 2 ((Pre ++ (U ++ (M ++ (Y ++ Post)))).map dW)] (.tuple [])
      [.dat false 2 ((Pre ++ (Y ++ (M ++ (U ++ Post)))).map dW)] := by
  subst ha; subst hn
  exact r_swapRange_W Pre U M Y Post N hN hN' hUY b hb f

theorem r_rotate (Pre U Y Post : List (Int × Int)) (N a m b : Nat) (hN : (Pre ++ (U ++ (Y ++ Post))).length = N) (hN' : N ≤ 1000000) (ha : a = Pre.length) (hm : m = a + U.length) (hb : b = m + Y.length) (hU : 0 < U.length) (hY : 0 < Y.length) (f : Nat) :
    RSpec Tryz.prog 237 [.own 0 0 N, .d (.int .i64 a), .d (.int .i64 m), .d (.int .i64 b), .func (f, 0) []] [.dat false 2 ((Pre ++ (U ++ (Y ++ Post))).map dW)] (.tuple [])
      [.dat false 2 ((Pre ++ (Y ++ (U ++ Post))).map dW)] := by
  refine RSpec.of_awp envOf_ok hmix Tryz.func237 rfl (fun args w => Tryz.call237 args w) (by simp [Tryz.f237]) ?_
  simp only [Tryz.f237]
  simp (maxSteps := 2000000) -implicitDefEqProofs only [zz, evop, ev, tget, tput, ok, V.isUndef, intBin, Ch.on, ↓reduceIte, reduceCtorEq, Nat.reduceLT, Nat.reduceEqDiff, Nat.reduceAdd, nilTest, initV]
  simp only [List.length_append] at hN
  have hw1 : IntKind.i64.wrap ((m : Int) - (a : Int)) = (U.length : Int) := by rw [wrap_in (by omega)]; omega
  have hw2 : IntKind.i64.wrap ((b : Int) - (m : Int)) = (Y.length : Int) := by rw [wrap_in (by omega)]; omega
  simp only [hw1, hw2]
  obtain ⟨T, hT⟩ : ∃ T, T = Pre ++ (Y ++ (U ++ Post)) := ⟨_, rfl⟩
  have hTl : T.length = N := by rw [hT]; simp; omega
  refine wloop_ind (σ := List (Int × Int) × List (Int × Int) × List (Int × Int) × List (Int × Int)) (fun s => s.2.1.length + s.2.2.1.length) (fun s => [(10, .d (.int .i64 s.2.1.length)), (11, .d (.int .i64 s.2.2.1.length)), (0, .own 0 0 N), (2, .d (.int .i64 m)), (4, .func (f, 0) [])])
    (fun s => [.dat false 2 ((s.1 ++ (s.2.1 ++ (s.2.2.1 ++ s.2.2.2))).map dW)]) (fun s => s.1.length + s.2.1.length = m ∧ 0 < s.2.1.length ∧ 0 < s.2.2.1.length ∧ s.1 ++ (s.2.2.1 ++ (s.2.1 ++ s.2.2.2)) = T) (Pre, U, Y, Post) ⟨by simp only; omega, hU, hY, hT.symm⟩ (Weak.sub (by simp [tget])) ?_
  rintro ⟨Pre', U', Y', Post'⟩ ⟨h1, h2, h3, h4⟩
  simp only at h1 h2 h3 h4
  have hlen : Pre'.length + (U'.length + (Y'.length + Post'.length)) = N := by
    have := congrArg List.length h4; rw [hTl] at this; simp at this; omega
  have hwa : IntKind.i64.wrap ((m : Int) - (U'.length : Int)) = (Pre'.length : Int) := by rw [wrap_in (by omega)]; omega
  rcases Nat.lt_trichotomy U'.length Y'.length with hlt | heq | hgt
  · -- fewer on the left
    obtain ⟨Y1, Y2, rfl, hY2⟩ : ∃ Y1 Y2, Y' = Y1 ++ Y2 ∧ Y2.length = U'.length := ⟨Y'.take (Y'.length - U'.length), Y'.drop (Y'.length - U'.length), (List.take_append_drop _ _).symm, by simp; omega⟩
    rw [List.length_append] at hlt hlen h3
    have e1 : ((U'.length : Int) != ((Y1 ++ Y2).length : Int)) = true := by simp; omega
    have e3 : ¬ (((Y1 ++ Y2).length : Int) < (U'.length : Int)) := by simp; omega
    have hws : IntKind.i64.wrap ((m : Int) + ((Y1 ++ Y2).length : Int)) = ((m + (Y1 ++ Y2).length : Nat) : Int) := by rw [wrap_in (by simp; omega)]; omega
    have hwb : IntKind.i64.wrap (((m + (Y1 ++ Y2).length : Nat) : Int) - (U'.length : Int)) = ((m + Y1.length : Nat) : Int) := by rw [wrap_in (by simp; omega)]; simp; omega
    have hwc : IntKind.i64.wrap (((Y1 ++ Y2).length : Int) - (U'.length : Int)) = (Y1.length : Int) := by rw [wrap_in (by simp; omega)]; simp; omega
    rw [List.append_assoc Y1 Y2 Post']
    simp (maxSteps := 2000000) -implicitDefEqProofs only [zz, evop, ev, tget, tput, ok, V.isUndef, intBin, Ch.on, calleeOf, withArgs, told, ↓reduceIte, reduceCtorEq, Nat.reduceLT, Nat.reduceEqDiff, nilTest, e1, e3, hwa, hws, hwb]
    refine acall_ref [0] (r_swapRange Pre' U' Y1 Y2 Post' N Pre'.length (m + Y1.length) U'.length (by simp; omega) hN' rfl rfl hY2.symm (by omega) f) (by first | rfl | simp [renL, V.ren, frρ, renL_ds]) (by simp) rfl (by simp) (by simp) (by intro j hj; match j, hj with | 0, _ => exact ⟨by simp [hget], rfl⟩) ?_
    try simp (maxSteps := 2000000) -implicitDefEqProofs only [zz, evop, ev, tget, tput, ok, V.isUndef, intBin, Ch.on, hput, ↓reduceIte, Nat.reduceLT, Nat.reduceEqDiff, nilTest, Blk.ren, V.ren, renL, frameH, putL]
    simp (maxSteps := 2000000) -implicitDefEqProofs only [hwc]
    refine ⟨(Pre', Y2, Y1, U' ++ Post'), ⟨by simp only; omega, by simp only; omega, by simp only; omega, by simp only; rw [← h4]; simp⟩, by simp; omega, Weak.trimsM 1 (by simp) rfl (by simp [tget, V.lower, lowerL, hY2]) (by simp [Blk.lower])⟩
  · have e1 : ((U'.length : Int) != (Y'.length : Int)) = false := by simp; omega
    simp (maxSteps := 2000000) -implicitDefEqProofs only [zz, evop, ev, tget, tput, ok, V.isUndef, intBin, Ch.on, calleeOf, withArgs, told, ↓reduceIte, reduceCtorEq, Nat.reduceLT, Nat.reduceEqDiff, nilTest, e1, hwa]
    refine acall_ref [0] (r_swapRange Pre' U' [] Y' Post' N Pre'.length m U'.length (by simp; omega) hN' rfl rfl heq (by simp; omega) f) (by first | rfl | simp [renL, V.ren, frρ, renL_ds]) (by simp) rfl (by simp) (by simp) (by intro j hj; match j, hj with | 0, _ => exact ⟨by simp [hget], rfl⟩) ?_
    try simp (maxSteps := 2000000) -implicitDefEqProofs only [zz, tput, hput, resOf, resVs, ↓reduceIte, Nat.reduceLT, Blk.ren, V.ren, renL, frameH, putL]
    rw [h4, hT]
    exact Weak.trimsM 1 (by simp) rfl (by simp [tget, V.lower, lowerL]) (by simp [Blk.lower])
  · obtain ⟨U1, U2, rfl, hU1⟩ : ∃ U1 U2, U' = U1 ++ U2 ∧ U1.length = Y'.length := ⟨U'.take Y'.length, U'.drop Y'.length, (List.take_append_drop _ _).symm, by simp; omega⟩
    rw [List.length_append] at hgt hlen h2 h1
    have e1 : (((U1 ++ U2).length : Int) != (Y'.length : Int)) = true := by simp; omega
    have e3 : ((Y'.length : Int) < ((U1 ++ U2).length : Int)) := by simp; omega
    have hwc : IntKind.i64.wrap (((U1 ++ U2).length : Int) - (Y'.length : Int)) = (U2.length : Int) := by rw [wrap_in (by simp; omega)]; simp; omega
    rw [List.append_assoc U1 U2]
    simp (maxSteps := 2000000) -implicitDefEqProofs only [zz, evop, ev, tget, tput, ok, V.isUndef, intBin, Ch.on, calleeOf, withArgs, told, ↓reduceIte, reduceCtorEq, Nat.reduceLT, Nat.reduceEqDiff, nilTest, e1, e3, hwa]
    refine acall_ref [0] (r_swapRange Pre' U1 U2 Y' Post' N Pre'.length m Y'.length (by simp; omega) hN' rfl hU1.symm rfl (by omega) f) (by first | rfl | simp [renL, V.ren, frρ, renL_ds]) (by simp) rfl (by simp) (by simp) (by intro j hj; match j, hj with | 0, _ => exact ⟨by simp [hget], rfl⟩) ?_
    try simp (maxSteps := 2000000) -implicitDefEqProofs only [zz, evop, ev, tget, tput, ok, V.isUndef, intBin, Ch.on, hput, ↓reduceIte, Nat.reduceLT, Nat.reduceEqDiff, nilTest, Blk.ren, V.ren, renL, frameH, putL]
    simp (maxSteps := 2000000) -implicitDefEqProofs only [hwc]
    have e9 : Pre' ++ (Y' ++ (U2 ++ (U1 ++ Post'))) = (Pre' ++ Y') ++ (U2 ++ (U1 ++ Post')) := by simp
    rw [e9]
    refine ⟨(Pre' ++ Y', U2, U1, Post'), ⟨by simp; omega, by simp only; omega, by simp only; omega, by simp only; rw [← h4]; simp⟩, by simp; omega, Weak.trimsM 1 (by simp) rfl (by simp [tget, V.lower, lowerL, hU1]) (by simp [Blk.lower])⟩

end Go.Proofs.YtjhfpabldidlgaaGreat.AM

set_option linter.all false
namespace Go.Proofs.YtjhfpabldidlgaaGreat.AM
open Go

section
variable {α : Type} {lt : α → α → Bool}

def mg (lt : α → α → Bool) (A B : List α) : List α := List.merge A B (fun x y => !lt y x)
theorem mg_nil (B : List α) : mg lt [] B = B := by simp [mg, List.merge]
theorem mg_nil' (A : List α) : mg lt A [] = A := by cases A <;> simp [mg, List.merge]
theorem mg_cons (a : α) (A : List α) (b : α) (B : List α) : mg lt (a :: A) (b :: B) = if lt b a = false then a :: mg lt A (b :: B) else b :: mg lt (a :: A) B := by
  simp only [mg]
  rw [List.merge]
  cases lt b a <;> simp
theorem mg_len : ∀ (A B : List α), (mg lt A B).length = A.length + B.length
  | [], B => by rw [mg_nil]; simp
  | a :: A, [] => by rw [mg_nil']; simp
  | a :: A, b :: B => by
    rw [mg_cons]
    split
    · simp [mg_len A (b :: B)]; omega
    · simp [mg_len (a :: A) B]; omega

theorem mg_split : ∀ (A1 B1 : List α) {A2 B2 : List α}, (∀ x ∈ A1, ∀ y ∈ B2, lt y x = false) → (∀ y ∈ B1, ∀ x ∈ A2, lt y x = true) → mg lt (A1 ++ A2) (B1 ++ B2) = mg lt A1 B1 ++ mg lt A2 B2
  | [], [], A2, B2, _, _ => by simp [mg_nil]
  | [], b :: B1, A2, B2, h1, h2 => by
    have ih := mg_split [] B1 (A2 := A2) (B2 := B2) (by simp) (fun y hy => h2 y (by simp [hy]))
    rw [mg_nil, List.nil_append] at *
    cases A2 with
    | nil => rw [mg_nil, mg_nil]
    | cons x A2 =>
      rw [List.cons_append, mg_cons, if_neg (by rw [h2 b (by simp) x (by simp)]; simp), ih]; rfl
  | a :: A1, [], A2, B2, h1, h2 => by
    have ih := mg_split A1 [] (A2 := A2) (B2 := B2) (fun x hx => h1 x (by simp [hx])) (by simp)
    rw [mg_nil', List.nil_append] at *
    cases B2 with
    | nil => rw [mg_nil', mg_nil']
    | cons y B2 =>
      rw [List.cons_append, mg_cons, if_pos (h1 a (by simp) y (by simp)), ih]; rfl
  | a :: A1, b :: B1, A2, B2, h1, h2 => by
    rw [List.cons_append, List.cons_append, mg_cons, mg_cons]
    split
    · have := mg_split A1 (b :: B1) (A2 := A2) (B2 := B2) (fun x hx => h1 x (by simp [hx])) h2
      rw [← List.cons_append, this]; rfl
    · have := mg_split (a :: A1) B1 (A2 := A2) (B2 := B2) h1 (fun y hy => h2 y (by simp [hy]))
      rw [← List.cons_append, this]; rfl

theorem mg_one {x : α} {B1 B2 : List α} (h1 : ∀ y ∈ B1, lt y x = true) (h2 : ∀ y ∈ B2, lt y x = false) : mg lt [x] (B1 ++ B2) = B1 ++ x :: B2 := by
  have := mg_split [] B1 (A2 := [x]) (B2 := B2) (lt := lt) (by simp) (fun y hy z hz => by simp at hz; subst hz; exact h1 y hy)
  rw [List.nil_append, mg_nil] at this
  rw [this]
  have := mg_split [x] [] (A2 := []) (B2 := B2) (lt := lt) (fun z hz y hy => by simp at hz; subst hz; exact h2 y hy) (by simp)
  rw [List.append_nil, List.nil_append, mg_nil', mg_nil] at this
  rw [this]; rfl

theorem mg_one' {y : α} {A1 A2 : List α} (h1 : ∀ x ∈ A1, lt y x = false) (h2 : ∀ x ∈ A2, lt y x = true) : mg lt (A1 ++ A2) [y] = A1 ++ y :: A2 := by
  have := mg_split A1 [] (A2 := A2) (B2 := [y]) (lt := lt) (fun x hx z hz => by simp at hz; subst hz; exact h1 x hx) (by simp)
  rw [List.nil_append, mg_nil'] at this
  rw [this]
  have := mg_split [] [y] (A2 := A2) (B2 := []) (lt := lt) (by simp) (fun z hz x hx => by simp at hz; subst hz; exact h2 x hx)
  rw [List.append_nil, List.nil_append, mg_nil', mg_nil] at this
  rw [this]; rfl

def Srt (lt : α → α → Bool) (l : List α) : Prop := ∀ (i j : Nat) (x y : α), i < j → l[i]? = some x → l[j]? = some y → lt y x = false

theorem Srt.take {l : List α} (h : Srt lt l) (n : Nat) : Srt lt (l.take n) := fun i j x y hij hx hy => by
  rw [List.getElem?_take] at hx hy
  split at hx
  · split at hy
    · exact h i j x y hij hx hy
    · cases hy
  · cases hx
theorem Srt.drop {l : List α} (h : Srt lt l) (n : Nat) : Srt lt (l.drop n) := fun i j x y hij hx hy => by
  rw [List.getElem?_drop] at hx hy
  exact h (n + i) (n + j) x y (by omega) hx hy

theorem cut_ok (hnt : ∀ x y z, lt x y = false → lt y z = false → lt x z = false) (hir : ∀ x, lt x x = false) {A B : List α} (hA : Srt lt A) (hB : Srt lt B) {i j : Nat}
    (hi : i ≤ A.length) (hj : j ≤ B.length) (h1 : 0 < i → j < B.length → ∀ x y, A[i - 1]? = some x → B[j]? = some y → lt y x = false)
    (h2 : i < A.length → 0 < j → ∀ x y, A[i]? = some x → B[j - 1]? = some y → lt y x = true) :
    (∀ x ∈ A.take i, ∀ y ∈ B.drop j, lt y x = false) ∧ (∀ y ∈ B.take j, ∀ x ∈ A.drop i, lt y x = true) := by
  have le' : ∀ {l : List α}, Srt lt l → ∀ {p q : Nat} {x y : α}, p ≤ q → l[p]? = some x → l[q]? = some y → lt y x = false := by
    intro l hl p q x y hpq hx hy
    rcases Nat.lt_or_ge p q with h | h
    · exact hl p q x y h hx hy
    · obtain rfl : p = q := by omega
      rw [hx] at hy; cases hy; exact hir x
  constructor
  · intro x hx y hy
    obtain ⟨p, hp⟩ := List.getElem?_of_mem hx
    obtain ⟨q, hq⟩ := List.getElem?_of_mem hy
    rw [List.getElem?_take] at hp
    rw [List.getElem?_drop] at hq
    split at hp
    · rename_i hpi
      have hjl : j + q < B.length := (List.getElem?_eq_some_iff.1 hq).1
      have hpl : p < A.length := (List.getElem?_eq_some_iff.1 hp).1
      have e1 : A[i - 1]? = some (A[i - 1]'(by omega)) := List.getElem?_eq_getElem (by omega)
      have e2 : B[j]? = some (B[j]'(by omega)) := List.getElem?_eq_getElem (by omega)
      have := h1 (by omega) (by omega) _ _ e1 e2
      exact hnt _ _ _ (hnt _ _ _ (le' hB (by omega) e2 hq) this) (le' hA (by omega) hp e1)
    · cases hp
  · intro y hy x hx
    obtain ⟨p, hp⟩ := List.getElem?_of_mem hx
    obtain ⟨q, hq⟩ := List.getElem?_of_mem hy
    rw [List.getElem?_drop] at hp
    rw [List.getElem?_take] at hq
    split at hq
    · have hil : i + p < A.length := (List.getElem?_eq_some_iff.1 hp).1
      have hql : q < B.length := (List.getElem?_eq_some_iff.1 hq).1
      have e1 : A[i]? = some (A[i]'(by omega)) := List.getElem?_eq_getElem (by omega)
      have e2 : B[j - 1]? = some (B[j - 1]'(by omega)) := List.getElem?_eq_getElem (by omega)
      have := h2 (by omega) (by omega) _ _ e1 e2
      cases h : lt y x with
      | true => rfl
      | false =>
        have h3 := hnt _ _ _ (hnt _ _ _ (le' hB (by omega) hq e2) h) (le' hA (by omega) e1 hp)
        rw [h3] at this; cases this
    · cases hq

end
end Go.Proofs.YtjhfpabldidlgaaGreat.AM

set_option linter.all false
set_option maxRecDepth 100000
set_option maxHeartbeats 4000000
namespace Go.Proofs.YtjhfpabldidlgaaGreat.AM
open Go Go.RowKit

theorem half_u (x : Nat) (h : x ≤ 4000000) : IntKind.i64.wrap (IntKind.u64.wrap (x : Int) / 2 ^ 1) = ((x / 2 : Nat) : Int) := by
  have h1 : IntKind.u64.wrap (x : Int) = (x : Int) := by rw [IntKind.wrap_u64]; omega
  rw [h1]
  have h2 : ((2 : Int) ^ 1) = 2 := rfl
  rw [h2, wrap_in (by omega)]; omega

theorem low_of {c : Int × Int → Int × Int → Int} (hnt : ∀ x y z, decide (c x y < 0) = false → decide (c y z < 0) = false → decide (c x z < 0) = false) {B : List (Int × Int)} (hS : Srt (fun x y => decide (c x y < 0)) B) {k h : Nat} {x y z : Int × Int} (hk : k ≤ h) (hz : B[k]? = some z) (hy : B[h]? = some y) (hcy : c y x < 0) : c z x < 0 := by
  rcases Nat.lt_or_ge k h with hlt | hge
  · have h1 := hS k h z y hlt hz hy
    cases hd : decide (c z x < 0) with
    | true => simpa using hd
    | false => have := hnt y z x h1 hd; simp at this; omega
  · obtain rfl : k = h := by omega
    rw [hz] at hy; cases hy; exact hcy
theorem high_of {c : Int × Int → Int × Int → Int} (hnt : ∀ x y z, decide (c x y < 0) = false → decide (c y z < 0) = false → decide (c x z < 0) = false) {B : List (Int × Int)} (hS : Srt (fun x y => decide (c x y < 0)) B) {k h : Nat} {x y z : Int × Int} (hk : h ≤ k) (hz : B[k]? = some z) (hy : B[h]? = some y) (hcy : ¬ c y x < 0) : ¬ c z x < 0 := by
  rcases Nat.lt_or_ge h k with hlt | hge
  · have h1 := hS h k y z hlt hy hz
    have := hnt z y x h1 (by simpa using hcy)
    simpa using this
  · obtain rfl : k = h := by omega
    rw [hz] at hy; cases hy; exact hcy

section
variable (c : Int × Int → Int × Int → Int) (f : Nat) (hc : ∀ x y, CSpec Tryz.prog f [dW x, dW y] (.int .i64 (c x y)))
include hc

theorem r_sym_left (x : Int × Int) (Pre B Post : List (Int × Int)) (N a m b : Nat) (hN : (Pre ++ (x :: (B ++ Post))).length = N) (hN' : N ≤ 1000000) (ha : a = Pre.length) (hm : m = a + 1) (hb : b = m + B.length) (hB : 0 < B.length)
    (hnt : ∀ x y z, decide (c x y < 0) = false → decide (c y z < 0) = false → decide (c x z < 0) = false) (hS : Srt (fun x y => decide (c x y < 0)) B) :
    RSpec Tryz.prog 220 [.own 0 0 N, .d (.int .i64 a), .d (.int .i64 m), .d (.int .i64 b), .func (f, 0) []] [.dat false 2 ((Pre ++ (x :: (B ++ Post))).map dW)] (.tuple [])
      [.dat false 2 ((Pre ++ (mg (fun x y => decide (c x y < 0)) [x] B ++ Post)).map dW)] := by
  refine RSpec.of_awp envOf_ok hmix Tryz.func220 rfl (fun args w => Tryz.call220 args w) (by simp [Tryz.f220]) ?_
  simp only [Tryz.f220]
  simp (maxSteps := 2000000) -implicitDefEqProofs only [zz, zE, evop, ev, ofVal, tget, tput, ok, V.isUndef, intBin, Ch.on, told, ↓reduceIte, reduceCtorEq, Nat.reduceLT, Nat.reduceEqDiff, Nat.reduceAdd, Int.reduceToNat, nilTest, initV]
  simp only [List.length_append, List.length_cons] at hN
  have hw1 : IntKind.i64.wrap ((m : Int) - (a : Int)) = 1 := by rw [wrap_in (by omega)]; omega
  have e1 : ((1 : Int) == 1) = true := rfl
  simp (maxSteps := 2000000) -implicitDefEqProofs only [zz, ↓reduceIte, hw1]
  refine wloop_ind (σ := Nat × Nat) (fun s => s.2 - s.1) (fun s => [(10, .d (.int .i64 ((m + s.1 : Nat) : Int))), (11, .d (.int .i64 ((m + s.2 : Nat) : Int))), (0, .own 0 0 N), (1, .d (.int .i64 a)), (4, .func (f, 0) [])])
    (fun s => [.dat false 2 ((Pre ++ (x :: (B ++ Post))).map dW)]) (fun s => s.1 ≤ s.2 ∧ s.2 ≤ B.length ∧ (∀ k y, k < s.1 → B[k]? = some y → c y x < 0) ∧ (∀ k y, s.2 ≤ k → B[k]? = some y → ¬ c y x < 0)) (0, B.length) ⟨Nat.zero_le _, Nat.le_refl _, fun k y hk => by simp at hk, fun k y hk hy => by have := (List.getElem?_eq_some_iff.1 hy).1; simp at hk; omega⟩ (Weak.sub (by simp [tget]; omega)) ?_
  rintro ⟨i, j⟩ ⟨hij, hj, hlo, hhi⟩
  simp only at hij hj hlo hhi
  rcases Nat.lt_or_ge i j with hlt | hge
  · have h' : (((m + i : Nat) : Int) < ((m + j : Nat) : Int)) := by omega
    have hws : IntKind.i64.wrap (((m + i : Nat) : Int) + ((m + j : Nat) : Int)) = ((m + i + (m + j) : Nat) : Int) := by rw [wrap_in (by omega)]; omega
    have hwh := half_u (m + i + (m + j)) (by omega)
    obtain ⟨h, hh, hh1, hh2⟩ : ∃ h, (m + i + (m + j)) / 2 = m + h ∧ i ≤ h ∧ h < j := ⟨(m + i + (m + j)) / 2 - m, by omega, by omega, by omega⟩
    rw [hh] at hwh
    have hy : B[h]? = some (B[h]'(by omega)) := List.getElem?_eq_getElem (by omega)
    obtain ⟨y, hy'⟩ : ∃ y, y = B[h]'(by omega) := ⟨_, rfl⟩
    rw [← hy'] at hy
    have gh : (Pre ++ (x :: (B ++ Post)))[m + h]? = some y := by
      rw [List.getElem?_append_right (by omega)]
      have : m + h - Pre.length = h + 1 := by omega
      rw [this, List.getElem?_cons_succ, List.getElem?_append_left (by omega), hy]
    have ga : (Pre ++ (x :: (B ++ Post)))[a]? = some x := by
      rw [List.getElem?_append_right (by omega)]
      have : a - Pre.length = 0 := by omega
      rw [this]; rfl
    have hwi : IntKind.i64.wrap (((m + h : Nat) : Int) + 1) = ((m + (h + 1) : Nat) : Int) := by rw [wrap_in (by omega)]; omega
    simp (maxSteps := 2000000) -implicitDefEqProofs only [zz, zE, evop, ev, ofVal, tget, tput, ok, V.isUndef, intBin, Ch.on, told, ↓reduceIte, Nat.reduceLT, Nat.reduceEqDiff, Int.reduceToNat, nilTest, h', hws, hwh]
    refine ⟨⟨by decide, by decide⟩, ?_⟩
    refine wdraw_plan [⟨[], false, [41, 42, 43, 44, 45, 46, 47, 48], [], false⟩, ⟨[], false, [40, 42, 45, 46, 47, 48], [0], false⟩, ⟨[], false, [40, 41, 45, 46, 47, 48], [0, 1], false⟩, ⟨[1, 2], false, [40, 45, 46, 47, 48], [0], false⟩, ⟨[1, 2, 3], false, [40, 45, 46, 47, 48], [0], false⟩, ⟨[], false, [40, 41, 42, 43, 44, 46], [0, 1, 2, 3, 4], false⟩, ⟨[], false, [40, 41, 42, 43, 44, 45], [0, 1, 2, 3, 4, 5], false⟩, ⟨[5, 6], false, [40, 41, 42, 43, 44], [0, 1, 2, 3, 4], false⟩, ⟨[5, 6, 7], false, [40, 41, 42, 43, 44], [0, 1, 2, 3, 4], false⟩, ⟨[0, 1, 2, 3, 4, 5, 6, 7, 8], true, [], [], false⟩, ⟨[0, 1, 2, 3, 4, 5, 6, 7, 8, 9], true, [], [], false⟩] (by decide) ?_
    simp (maxSteps := 2000000) -implicitDefEqProofs only [zz, zE, evop, ev, ofVal, tget, tput, ok, V.isUndef, calleeOf, withArgs, hget, hput, D.cells, loadD, Blk.width, ↓reduceIte, reduceCtorEq, Nat.reduceLT, Nat.reduceEqDiff, Nat.reduceAdd, Nat.reduceLeDiff, dW, List.getElem?_map, gh, ga, Option.map_some, Int.natCast_nonneg]
    refine ⟨by omega, by omega, ?_⟩
    refine acall_flat (ds := [dW y, dW x]) (by simp only [xports, xport, dW]) (hc y x) rfl ?_
    simp (maxSteps := 2000000) -implicitDefEqProofs only [zz, evop, ev, ofVal, tget, tput, ok, V.isUndef, intBin, Ch.on, told, ↓reduceIte, Nat.reduceLT, Nat.reduceEqDiff, Nat.reduceAdd, nilTest, hwi]
    by_cases hcy : c y x < 0
    · simp (maxSteps := 2000000) -implicitDefEqProofs only [zz, ↓reduceIte, hcy]
      refine ⟨(h + 1, j), ⟨by simp only; omega, hj, fun k z hk hz => low_of hnt hS (h := h) (by simp only at hk; omega) hz hy hcy, hhi⟩, by simp only; omega, Weak.trimsM 1 (by simp) rfl (by simp [tget, V.lower, lowerL]) (by simp [Blk.lower])⟩
    · simp (maxSteps := 2000000) -implicitDefEqProofs only [zz, ↓reduceIte, hcy]
      refine ⟨(i, h), ⟨hh1, by simp only; omega, hlo, fun k z hk hz => high_of hnt hS (h := h) hk hz hy hcy⟩, by simp only; omega, Weak.trimsM 1 (by simp) rfl (by simp [tget, V.lower, lowerL]) (by simp [Blk.lower])⟩
  · obtain rfl : i = j := by omega
    have h' : ¬ (((m + i : Nat) : Int) < ((m + i : Nat) : Int)) := by omega
    simp (maxSteps := 2000000) -implicitDefEqProofs only [zz, evop, ev, tget, tput, ok, V.isUndef, intBin, Ch.on, told, ↓reduceIte, reduceCtorEq, Nat.reduceLT, Nat.reduceEqDiff, nilTest, h']
    have hwp : IntKind.i64.wrap (((m + i : Nat) : Int) - 1) = ((a + i : Nat) : Int) := by rw [wrap_in (by omega)]; omega
    refine wloop_count i (fun p => [(13, .d (.int .i64 ((a + p : Nat) : Int))), (10, .d (.int .i64 ((m + i : Nat) : Int))), (0, .own 0 0 N)])
      (fun p => [.dat false 2 ((Pre ++ (B.take p ++ x :: (B.drop p ++ Post))).map dW)]) (fun p => True) trivial ?_ (fun p hp _ => ?_) (fun _ => ?_)
    · exact Weak.sub (by simp [tget])
    · have h' : (((a + p : Nat) : Int) < ((a + i : Nat) : Int)) := by omega
      have hwn : IntKind.i64.wrap (((a + p : Nat) : Int) + 1) = ((a + (p + 1) : Nat) : Int) := by rw [wrap_in (by omega)]; omega
      obtain ⟨y, hy'⟩ : ∃ y, y = B[p]'(by omega) := ⟨_, rfl⟩
      have hL : Pre ++ (B.take p ++ x :: (B.drop p ++ Post)) = (Pre ++ B.take p) ++ x :: ([] ++ y :: (B.drop (p + 1) ++ Post)) := by
        rw [List.drop_eq_getElem_cons (by omega), ← hy']; simp
      have hL2 : Pre ++ (B.take (p + 1) ++ x :: (B.drop (p + 1) ++ Post)) = (Pre ++ B.take p) ++ y :: ([] ++ x :: (B.drop (p + 1) ++ Post)) := by
        rw [List.take_add_one, List.getElem?_eq_getElem (by omega), ← hy']; simp
      obtain ⟨g1, g2, g3, g4⟩ := two_get (A := Pre ++ B.take p) (B := []) (C := B.drop (p + 1) ++ Post) (u := x) (v := y) (i := a + p) (j := a + (p + 1)) (by simp; omega) (by simp; omega)
      rw [hL, hL2]
      simp (maxSteps := 2000000) -implicitDefEqProofs only [zz, evop, ev, ofVal, tget, tput, ok, V.isUndef, intBin, Ch.on, told, ↓reduceIte, Nat.reduceLT, Nat.reduceEqDiff, nilTest, hwp, h']
      refine wdraw_plan [⟨[], false, [62, 63, 64, 65, 66, 67, 68, 69, 70, 71, 72, 73, 74], [], false⟩, ⟨[], false, [61, 63, 64, 65, 66, 67, 68, 69, 70, 71, 72, 73, 74], [0], false⟩, ⟨[], false, [61, 62, 63, 64, 65, 66, 67, 68, 69, 70, 71, 72, 73, 74, 75], [0, 1], true⟩, ⟨[], false, [61, 62, 63, 64, 65, 66, 67, 68, 69, 70, 71, 72, 73, 74, 75], [0, 1, 2], true⟩, ⟨[3], false, [61, 62, 63, 65, 66, 67, 68, 69, 70, 71, 72, 73, 74, 75], [0, 1, 2], true⟩, ⟨[], false, [61, 62, 63, 64, 65, 67, 68, 71, 72, 73, 74], [0, 1, 2, 3, 4], false⟩, ⟨[], false, [61, 62, 63, 64, 65, 66, 71, 72, 73, 74], [0, 1, 2, 3, 4, 5], false⟩, ⟨[6], false, [61, 62, 63, 64, 65, 66, 71, 72, 73, 74], [0, 1, 2, 3, 4, 5], false⟩, ⟨[5, 6, 7], false, [61, 62, 63, 64, 65, 71, 72, 73, 74], [0, 1, 2, 3, 4], false⟩, ⟨[5, 6, 7, 8], false, [61, 62, 63, 64, 65, 71, 72, 73, 74], [0, 1, 2, 3, 4], false⟩, ⟨[], false, [61, 62, 63, 64, 65, 66, 67, 68, 69, 70, 72], [0, 1, 2, 3, 4, 5, 6, 7, 8, 9], false⟩, ⟨[], false, [61, 62, 63, 64, 65, 66, 67, 68, 69, 70, 71], [0, 1, 2, 3, 4, 5, 6, 7, 8, 9, 10], false⟩, ⟨[10, 11], false, [61, 62, 63, 64, 65, 66, 67, 68, 69, 70], [0, 1, 2, 3, 4, 5, 6, 7, 8, 9], false⟩, ⟨[10, 11, 12], false, [61, 62, 63, 64, 65, 66, 67, 68, 69, 70], [0, 1, 2, 3, 4, 5, 6, 7, 8, 9], false⟩, ⟨[0, 1, 5, 6, 7, 8, 9, 10, 11, 12, 13], false, [63, 64, 65], [2, 3, 4], false⟩, ⟨[0, 1, 5, 6, 7, 8, 9, 10, 11, 12, 13, 14], true, [63, 64, 65], [], false⟩, ⟨[0, 1, 2, 3, 4, 5, 6, 7, 8, 9, 10, 11, 12, 13, 14, 15], true, [], [], false⟩, ⟨[0, 1, 2, 3, 4, 5, 6, 7, 8, 9, 10, 11, 12, 13, 14, 15, 16], true, [], [], false⟩] (by decide) ?_
      rw [List.nil_append] at g1 g2 g3 g4
      rw [List.nil_append] at g4
      simp (maxSteps := 2000000) -implicitDefEqProofs only [zz, zE, evop, ev, ofVal, tget, tput, ok, V.isUndef, intBin, Ch.on, hget, hput, V.cells, D.cells, V.isAgg, V.one, V.clo, clos, loadD, Blk.width, splice, D.over, ↓reduceIte, reduceCtorEq, Nat.reduceLT, Nat.reduceEqDiff, Nat.reduceAdd, Nat.reduceLeDiff, nilTest, dW, hwn, List.getElem?_map, g1, g2, g3, Option.map_some, Int.natCast_nonneg, set_dW', g4]
      refine ⟨by omega, by omega, by omega, by omega, Weak.trimsM 1 (by simp) rfl (by simp [tget, V.lower, lowerL]) (by simp [Blk.lower])⟩
    · have h' : ¬ (((a + i : Nat) : Int) < ((a + i : Nat) : Int)) := by omega
      simp (maxSteps := 2000000) -implicitDefEqProofs only [zz, evop, ev, ofVal, tget, tput, ok, V.isUndef, intBin, Ch.on, told, resOf, resVs, ↓reduceIte, Nat.reduceLT, Nat.reduceEqDiff, nilTest, hwp, h']
      have e : mg (fun x y => decide (c x y < 0)) [x] B = B.take i ++ x :: B.drop i := by
        conv => lhs; rw [← List.take_append_drop i B]
        refine mg_one (fun y hy => ?_) (fun y hy => ?_)
        · obtain ⟨k, hk⟩ := List.getElem?_of_mem hy
          rw [List.getElem?_take] at hk
          split at hk
          · rename_i hki; simpa using hlo k y hki hk
          · cases hk
        · obtain ⟨k, hk⟩ := List.getElem?_of_mem hy
          rw [List.getElem?_drop] at hk
          simpa using hhi (i + k) y (by omega) hk
      rw [e, List.append_assoc, List.cons_append]
      exact Weak.trimsM 1 (by simp) rfl (by simp [tget, V.lower, lowerL]) (by simp [Blk.lower])

theorem r_sym_right (y : Int × Int) (Pre A Post : List (Int × Int)) (N a m b : Nat) (hN : (Pre ++ (A ++ (y :: Post))).length = N) (hN' : N ≤ 1000000) (ha : a = Pre.length) (hm : m = a + A.length) (hb : b = m + 1) (hA : 1 < A.length)
    (hnt : ∀ x y z, decide (c x y < 0) = false → decide (c y z < 0) = false → decide (c x z < 0) = false) (hS : Srt (fun x y => decide (c x y < 0)) A) :
    RSpec Tryz.prog 220 [.own 0 0 N, .d (.int .i64 a), .d (.int .i64 m), .d (.int .i64 b), .func (f, 0) []] [.dat false 2 ((Pre ++ (A ++ (y :: Post))).map dW)] (.tuple [])
      [.dat false 2 ((Pre ++ (mg (fun x y => decide (c x y < 0)) A [y] ++ Post)).map dW)] := by
  refine RSpec.of_awp envOf_ok hmix Tryz.func220 rfl (fun args w => Tryz.call220 args w) (by simp [Tryz.f220]) ?_
  simp only [Tryz.f220]
  simp (maxSteps := 2000000) -implicitDefEqProofs only [zz, zE, evop, ev, ofVal, tget, tput, ok, V.isUndef, intBin, Ch.on, told, ↓reduceIte, reduceCtorEq, Nat.reduceLT, Nat.reduceEqDiff, Nat.reduceAdd, Int.reduceToNat, nilTest, initV]
  simp only [List.length_append, List.length_cons] at hN
  have hw1 : IntKind.i64.wrap ((m : Int) - (a : Int)) = (A.length : Int) := by rw [wrap_in (by omega)]; omega
  have hw2 : IntKind.i64.wrap ((b : Int) - (m : Int)) = 1 := by rw [wrap_in (by omega)]; omega
  have e0 : ((A.length : Int) == 1) = false := by rw [beq_eq_false_iff_ne]; omega
  have e1 : ((1 : Int) == 1) = true := rfl
  simp (maxSteps := 2000000) -implicitDefEqProofs only [zz, ↓reduceIte, hw1, hw2, e0]
  refine wloop_ind (σ := Nat × Nat) (fun s => s.2 - s.1) (fun s => [(14, .d (.int .i64 ((a + s.1 : Nat) : Int))), (15, .d (.int .i64 ((a + s.2 : Nat) : Int))), (0, .own 0 0 N), (2, .d (.int .i64 m)), (4, .func (f, 0) [])])
    (fun s => [.dat false 2 ((Pre ++ (A ++ (y :: Post))).map dW)]) (fun s => s.1 ≤ s.2 ∧ s.2 ≤ A.length ∧ (∀ k x, k < s.1 → A[k]? = some x → ¬ c y x < 0) ∧ (∀ k x, s.2 ≤ k → A[k]? = some x → c y x < 0)) (0, A.length) ⟨Nat.zero_le _, Nat.le_refl _, fun k y hk => by simp at hk, fun k y hk hy => by have := (List.getElem?_eq_some_iff.1 hy).1; simp at hk; omega⟩ (Weak.sub (by simp [tget]; omega)) ?_
  rintro ⟨i, j⟩ ⟨hij, hj, hlo, hhi⟩
  simp only at hij hj hlo hhi
  rcases Nat.lt_or_ge i j with hlt | hge
  · have h' : (((a + i : Nat) : Int) < ((a + j : Nat) : Int)) := by omega
    have hws : IntKind.i64.wrap (((a + i : Nat) : Int) + ((a + j : Nat) : Int)) = ((a + i + (a + j) : Nat) : Int) := by rw [wrap_in (by omega)]; omega
    have hwh := half_u (a + i + (a + j)) (by omega)
    obtain ⟨h, hh, hh1, hh2⟩ : ∃ h, (a + i + (a + j)) / 2 = a + h ∧ i ≤ h ∧ h < j := ⟨(a + i + (a + j)) / 2 - a, by omega, by omega, by omega⟩
    rw [hh] at hwh
    have hx : A[h]? = some (A[h]'(by omega)) := List.getElem?_eq_getElem (by omega)
    obtain ⟨x, hx'⟩ : ∃ x, x = A[h]'(by omega) := ⟨_, rfl⟩
    rw [← hx'] at hx
    have gh : (Pre ++ (A ++ (y :: Post)))[a + h]? = some x := by
      rw [List.getElem?_append_right (by omega)]
      have : a + h - Pre.length = h := by omega
      rw [this, List.getElem?_append_left (by omega), hx]
    have gm : (Pre ++ (A ++ (y :: Post)))[m]? = some y := by
      rw [List.getElem?_append_right (by omega), List.getElem?_append_right (by omega)]
      have : m - Pre.length - A.length = 0 := by omega
      rw [this]; rfl
    have hwi : IntKind.i64.wrap (((a + h : Nat) : Int) + 1) = ((a + (h + 1) : Nat) : Int) := by rw [wrap_in (by omega)]; omega
    simp (maxSteps := 2000000) -implicitDefEqProofs only [zz, zE, evop, ev, ofVal, tget, tput, ok, V.isUndef, intBin, Ch.on, told, ↓reduceIte, Nat.reduceLT, Nat.reduceEqDiff, Int.reduceToNat, nilTest, h', hws, hwh]
    refine ⟨⟨by decide, by decide⟩, ?_⟩
    refine wdraw_plan [⟨[], false, [93, 94, 95, 96, 97, 98, 99, 100], [], false⟩, ⟨[], false, [92, 94, 97, 98, 99, 100], [0], false⟩, ⟨[], false, [92, 93, 97, 98, 99, 100], [0, 1], false⟩, ⟨[1, 2], false, [92, 97, 98, 99, 100], [0], false⟩, ⟨[1, 2, 3], false, [92, 97, 98, 99, 100], [0], false⟩, ⟨[], false, [92, 93, 94, 95, 96, 98], [0, 1, 2, 3, 4], false⟩, ⟨[], false, [92, 93, 94, 95, 96, 97], [0, 1, 2, 3, 4, 5], false⟩, ⟨[5, 6], false, [92, 93, 94, 95, 96], [0, 1, 2, 3, 4], false⟩, ⟨[5, 6, 7], false, [92, 93, 94, 95, 96], [0, 1, 2, 3, 4], false⟩, ⟨[0, 1, 2, 3, 4, 5, 6, 7, 8], true, [], [], false⟩, ⟨[0, 1, 2, 3, 4, 5, 6, 7, 8, 9], true, [], [], false⟩, ⟨[0, 1, 2, 3, 4, 5, 6, 7, 8, 9, 10], true, [], [], false⟩] (by decide) ?_
    simp (maxSteps := 2000000) -implicitDefEqProofs only [zz, zE, evop, ev, ofVal, tget, tput, ok, V.isUndef, calleeOf, withArgs, hget, hput, D.cells, loadD, Blk.width, ↓reduceIte, reduceCtorEq, Nat.reduceLT, Nat.reduceEqDiff, Nat.reduceAdd, Nat.reduceLeDiff, dW, List.getElem?_map, gh, gm, Option.map_some, Int.natCast_nonneg]
    refine ⟨by omega, by omega, ?_⟩
    refine acall_flat (ds := [dW y, dW x]) (by simp only [xports, xport, dW]) (hc y x) rfl ?_
    simp (maxSteps := 2000000) -implicitDefEqProofs only [zz, evop, ev, ofVal, tget, tput, ok, V.isUndef, intBin, Ch.on, told, ↓reduceIte, Nat.reduceLT, Nat.reduceEqDiff, Nat.reduceAdd, nilTest, hwi]
    by_cases hcy : c y x < 0
    · simp (maxSteps := 2000000) -implicitDefEqProofs only [zz, ↓reduceIte, hcy]
      refine ⟨(i, h), ⟨hh1, by simp only; omega, hlo, fun k z hk hz => ?_⟩, by simp only; omega, Weak.trimsM 1 (by simp) rfl (by simp [tget, V.lower, lowerL]) (by simp [Blk.lower])⟩
      rcases Nat.lt_or_ge h k with hlt' | hge'
      · have h1 := hS h k x z hlt' hx hz
        cases hd : decide (c y z < 0) with
        | true => simpa using hd
        | false => have := hnt y z x hd h1; simp at this; omega
      · simp only at hk
        obtain rfl : k = h := by omega
        rw [hx] at hz; cases hz; exact hcy
    · simp (maxSteps := 2000000) -implicitDefEqProofs only [zz, ↓reduceIte, hcy]
      refine ⟨(h + 1, j), ⟨by simp only; omega, hj, fun k z hk hz => ?_, hhi⟩, by simp only; omega, Weak.trimsM 1 (by simp) rfl (by simp [tget, V.lower, lowerL]) (by simp [Blk.lower])⟩
      rcases Nat.lt_or_ge k h with hlt' | hge'
      · have h1 := hS k h z x hlt' hz hx
        have := hnt y x z (by simpa using hcy) h1
        simpa using this
      · simp only at hk
        obtain rfl : k = h := by omega
        rw [hx] at hz; cases hz; exact hcy
  · obtain rfl : i = j := by omega
    have h' : ¬ (((a + i : Nat) : Int) < ((a + i : Nat) : Int)) := by omega
    simp (maxSteps := 2000000) -implicitDefEqProofs only [zz, evop, ev, tget, tput, ok, V.isUndef, intBin, Ch.on, told, ↓reduceIte, reduceCtorEq, Nat.reduceLT, Nat.reduceEqDiff, nilTest, h']
    refine wloop_count (A.length - i) (fun p => [(17, .d (.int .i64 ((m - p : Nat) : Int))), (14, .d (.int .i64 ((a + i : Nat) : Int))), (0, .own 0 0 N)])
      (fun p => [.dat false 2 ((Pre ++ (A.take (A.length - p) ++ y :: (A.drop (A.length - p) ++ Post))).map dW)]) (fun p => True) trivial ?_ (fun p hp _ => ?_) (fun _ => ?_)
    · simp only [Nat.sub_zero, List.take_length, List.drop_length, List.nil_append]
      exact Weak.sub (by simp [tget])
    · have h' : (((a + i : Nat) : Int) < ((m - p : Nat) : Int)) := by omega
      have hwn : IntKind.i64.wrap (((m - p : Nat) : Int) - 1) = ((m - (p + 1) : Nat) : Int) := by rw [wrap_in (by omega)]; omega
      obtain ⟨q, hq⟩ : ∃ q, A.length - p = q + 1 := ⟨A.length - p - 1, by omega⟩
      have hq2 : A.length - (p + 1) = q := by omega
      obtain ⟨x, hx'⟩ : ∃ x, x = A[q]'(by omega) := ⟨_, rfl⟩
      have hL : Pre ++ (A.take (A.length - p) ++ y :: (A.drop (A.length - p) ++ Post)) = (Pre ++ A.take q) ++ x :: ([] ++ y :: (A.drop (q + 1) ++ Post)) := by
        rw [hq, List.take_add_one, List.getElem?_eq_getElem (by omega), ← hx']; simp
      have hL2 : Pre ++ (A.take (A.length - (p + 1)) ++ y :: (A.drop (A.length - (p + 1)) ++ Post)) = (Pre ++ A.take q) ++ y :: ([] ++ x :: (A.drop (q + 1) ++ Post)) := by
        rw [hq2, List.drop_eq_getElem_cons (by omega), ← hx']; simp
      obtain ⟨g1, g2, g3, g4⟩ := two_get (A := Pre ++ A.take q) (B := []) (C := A.drop (q + 1) ++ Post) (u := x) (v := y) (i := m - (p + 1)) (j := m - p) (by simp; omega) (by simp; omega)
      rw [hL, hL2]
      rw [List.nil_append] at g1 g2 g3 g4
      rw [List.nil_append] at g4
      have g5 : (((Pre ++ A.take q) ++ x :: (y :: (A.drop (q + 1) ++ Post))).set (m - p) x)[m - (p + 1)]? = some x := by rw [List.getElem?_set_ne (by omega)]; exact g1
      rw [List.set_comm _ _ (by omega)] at g4
      simp (maxSteps := 2000000) -implicitDefEqProofs only [zz, evop, ev, tget, tput, ok, V.isUndef, intBin, Ch.on, told, ↓reduceIte, Nat.reduceLT, Nat.reduceEqDiff, nilTest, h']
      refine wdraw_plan [⟨[], false, [114, 115, 116, 117, 118, 119, 120, 121, 122, 123, 124, 125, 126], [], false⟩, ⟨[], false, [113, 115, 116, 117, 118, 119, 120, 121, 122, 123, 124, 125, 126], [0], false⟩, ⟨[], false, [113, 114, 115, 116, 117, 118, 119, 120, 121, 122, 123, 124, 125, 126, 127], [0, 1], true⟩, ⟨[], false, [113, 114, 115, 116, 117, 118, 119, 120, 121, 122, 123, 124, 125, 126, 127], [0, 1, 2], true⟩, ⟨[3], false, [113, 114, 115, 117, 118, 119, 120, 121, 122, 123, 124, 125, 126, 127], [0, 1, 2], true⟩, ⟨[], false, [113, 114, 115, 116, 117, 119, 120, 123, 124, 125, 126], [0, 1, 2, 3, 4], false⟩, ⟨[], false, [113, 114, 115, 116, 117, 118, 123, 124, 125, 126], [0, 1, 2, 3, 4, 5], false⟩, ⟨[6], false, [113, 114, 115, 116, 117, 118, 123, 124, 125, 126], [0, 1, 2, 3, 4, 5], false⟩, ⟨[5, 6, 7], false, [113, 114, 115, 116, 117, 123, 124, 125, 126], [0, 1, 2, 3, 4], false⟩, ⟨[5, 6, 7, 8], false, [113, 114, 115, 116, 117, 123, 124, 125, 126], [0, 1, 2, 3, 4], false⟩, ⟨[], false, [113, 114, 115, 116, 117, 118, 119, 120, 121, 122, 124], [0, 1, 2, 3, 4, 5, 6, 7, 8, 9], false⟩, ⟨[], false, [113, 114, 115, 116, 117, 118, 119, 120, 121, 122, 123], [0, 1, 2, 3, 4, 5, 6, 7, 8, 9, 10], false⟩, ⟨[10, 11], false, [113, 114, 115, 116, 117, 118, 119, 120, 121, 122], [0, 1, 2, 3, 4, 5, 6, 7, 8, 9], false⟩, ⟨[10, 11, 12], false, [113, 114, 115, 116, 117, 118, 119, 120, 121, 122], [0, 1, 2, 3, 4, 5, 6, 7, 8, 9], false⟩, ⟨[0, 1, 5, 6, 7, 8, 9, 10, 11, 12, 13], false, [115, 116, 117], [2, 3, 4], false⟩, ⟨[0, 1, 5, 6, 7, 8, 9, 10, 11, 12, 13, 14], true, [115, 116, 117], [], false⟩, ⟨[0, 1, 2, 3, 4, 5, 6, 7, 8, 9, 10, 11, 12, 13, 14, 15], true, [], [], false⟩, ⟨[0, 1, 2, 3, 4, 5, 6, 7, 8, 9, 10, 11, 12, 13, 14, 15, 16], true, [], [], false⟩] (by decide) ?_
      simp (maxSteps := 2000000) -implicitDefEqProofs only [zz, zE, evop, ev, ofVal, tget, tput, ok, V.isUndef, intBin, Ch.on, hget, hput, V.cells, D.cells, V.isAgg, V.one, V.clo, clos, loadD, Blk.width, splice, D.over, ↓reduceIte, reduceCtorEq, Nat.reduceLT, Nat.reduceEqDiff, Nat.reduceAdd, Nat.reduceLeDiff, nilTest, dW, hwn, List.getElem?_map, g1, g2, g5, Option.map_some, Int.natCast_nonneg, set_dW', g4]
      refine ⟨by omega, by omega, by omega, by omega, Weak.trimsM 1 (by simp) rfl (by simp [tget, V.lower, lowerL]) (by simp [Blk.lower])⟩
    · have em : m - (A.length - i) = a + i := by omega
      have h' : ¬ (((a + i : Nat) : Int) < ((m - (A.length - i) : Nat) : Int)) := by omega
      simp (maxSteps := 2000000) -implicitDefEqProofs only [zz, evop, ev, tget, tput, ok, V.isUndef, intBin, Ch.on, told, resOf, resVs, ↓reduceIte, Nat.reduceLT, Nat.reduceEqDiff, nilTest, h']
      have ei : A.length - (A.length - i) = i := by omega
      have e : mg (fun x y => decide (c x y < 0)) A [y] = A.take i ++ y :: A.drop i := by
        conv => lhs; rw [← List.take_append_drop i A]
        refine mg_one' (fun x hx => ?_) (fun x hx => ?_)
        · obtain ⟨k, hk⟩ := List.getElem?_of_mem hx
          rw [List.getElem?_take] at hk
          split at hk
          · rename_i hki; simpa using hlo k x hki hk
          · cases hk
        · obtain ⟨k, hk⟩ := List.getElem?_of_mem hx
          rw [List.getElem?_drop] at hk
          simpa using hhi (i + k) x (by omega) hk
      rw [e, ei, List.append_assoc, List.cons_append]
      exact Weak.trimsM 1 (by simp) rfl (by simp [tget, V.lower, lowerL]) (by simp [Blk.lower])
end

end Go.Proofs.YtjhfpabldidlgaaGreat.AM

set_option linter.all false
set_option maxRecDepth 100000
set_option maxHeartbeats 4000000
namespace Go.Proofs.YtjhfpabldidlgaaGreat.AM
open Go Go.RowKit

theorem up_of {c : Int × Int → Int × Int → Int} (hnt : ∀ x y z, decide (c x y < 0) = false → decide (c y z < 0) = false → decide (c x z < 0) = false) {A : List (Int × Int)} (hS : Srt (fun x y => decide (c x y < 0)) A) {i j : Nat} {x y z : Int × Int} (hk : i ≤ j) (hx : A[i]? = some x) (hz : A[j]? = some z) (hcy : c y x < 0) : c y z < 0 := by
  rcases Nat.lt_or_ge i j with hlt | hge
  · have h1 := hS i j x z hlt hx hz
    cases hd : decide (c y z < 0) with
    | true => simpa using hd
    | false => have := hnt y z x hd h1; simp at this; omega
  · obtain rfl : i = j := by omega
    rw [hx] at hz; cases hz; exact hcy
theorem dn_of {c : Int × Int → Int × Int → Int} (hnt : ∀ x y z, decide (c x y < 0) = false → decide (c y z < 0) = false → decide (c x z < 0) = false) {A : List (Int × Int)} (hS : Srt (fun x y => decide (c x y < 0)) A) {i j : Nat} {x y z : Int × Int} (hk : j ≤ i) (hx : A[i]? = some x) (hz : A[j]? = some z) (hcy : ¬ c y x < 0) : ¬ c y z < 0 := by
  rcases Nat.lt_or_ge j i with hlt | hge
  · have h1 := hS j i z x hlt hz hx
    have := hnt y x z (by simpa using hcy) h1
    simpa using this
  · obtain rfl : i = j := by omega
    rw [hx] at hz; cases hz; exact hcy


noncomputable def symC : Code := Tryz.f220.body.getD .skip
abbrev lts (c : Int × Int → Int × Int → Int) (x y : Int × Int) : Bool := decide (c x y < 0)
abbrev symR (f N a m b : Nat) (L L' : List (Int × Int)) : Prop := RSpec Tryz.prog 220 [.own 0 0 N, .d (.int .i64 a), .d (.int .i64 m), .d (.int .i64 b), .func (f, 0) []] [.dat false 2 (L.map dW)] (.tuple []) [.dat false 2 (L'.map dW)]

theorem sym43 (lt : Int × Int → Int × Int → Bool) (f : Nat) (P2 A2 B2 Post : List (Int × Int)) (N mid e b : Nat) (he : e = mid + A2.length) (hb : b = e + B2.length)
    (ih : 0 < A2.length → 0 < B2.length → symR f N mid e b (P2 ++ (A2 ++ (B2 ++ Post))) (P2 ++ (mg lt A2 B2 ++ Post))) :
    Snd Tryz.prog (envOf Tryz.prog) 220 1 (tlN 11 symC) [(18, .d (.int .i64 mid)), (24, .d (.int .i64 e)), (3, .d (.int .i64 b)), (0, .own 0 0 N), (4, .func (f, 0) [])] [.dat false 2 ((P2 ++ (A2 ++ (B2 ++ Post))).map dW)]
      (FinR (envOf Tryz.prog) 1 [] (.tuple []) [.dat false 2 ((P2 ++ (mg lt A2 B2 ++ Post)).map dW)]) := by
  refine Snd.of_awp envOf_ok hmix ?_
  simp only [symC, Tryz.f220, Option.getD_some, tlN]
  by_cases q5 : ((mid : Int) < (e : Int))
  · by_cases q6 : ((e : Int) < (b : Int))
    · simp (maxSteps := 2000000) -implicitDefEqProofs only [zz, evop, ev, tget, tput, ok, V.isUndef, intBin, guardOf, Ch.on, calleeOf, withArgs, told, ↓reduceIte, reduceCtorEq, Nat.reduceLT, Nat.reduceEqDiff, nilTest, q5, q6]
      refine acall_ref [0] (ih (by omega) (by omega)) (by first | rfl | simp [renL, V.ren, frρ, renL_ds]) (by simp) rfl (by simp) (by simp) (by intro j hj; match j, hj with | 0, _ => exact ⟨by simp [hget], rfl⟩) ?_
      try simp (maxSteps := 2000000) -implicitDefEqProofs only [zz, tput, hput, resOf, resVs, ↓reduceIte, Nat.reduceLT, Blk.ren, V.ren, renL, frameH, putL]
      exact Weak.trimsM 1 (by simp) rfl (by simp [tget, V.lower, lowerL]) (by simp [Blk.lower])
    · have eB : B2 = [] := List.length_eq_zero_iff.1 (by omega)
      subst eB
      rw [mg_nil', List.nil_append]
      simp (maxSteps := 2000000) -implicitDefEqProofs only [zz, evop, ev, tget, tput, ok, V.isUndef, intBin, guardOf, Ch.on, told, resOf, resVs, ↓reduceIte, Nat.reduceLT, Nat.reduceEqDiff, nilTest, q5, q6]
      exact Weak.trimsM 1 (by simp) rfl (by simp [tget, V.lower, lowerL]) (by simp [Blk.lower])
  · have eA : A2 = [] := List.length_eq_zero_iff.1 (by omega)
    subst eA
    rw [mg_nil, List.nil_append]
    simp (maxSteps := 2000000) -implicitDefEqProofs only [zz, evop, ev, ofVal, tget, tput, ok, V.isUndef, intBin, guardOf, Ch.on, told, resOf, resVs, ↓reduceIte, Nat.reduceLT, Nat.reduceEqDiff, nilTest, q5]
    exact Weak.trimsM 1 (by simp) rfl (by simp [tget, V.lower, lowerL]) (by simp [Blk.lower])


theorem sym41 (lt : Int × Int → Int × Int → Bool) (f : Nat) (Pre A1 B1 A2 B2 Post : List (Int × Int)) (N a s mid e b : Nat) (hs : s = a + A1.length) (hm : mid = s + B1.length) (he : e = mid + A2.length) (hb : b = e + B2.length)
    (ih1 : 0 < A1.length → 0 < B1.length → symR f N a s mid (Pre ++ (A1 ++ (B1 ++ (A2 ++ (B2 ++ Post))))) (Pre ++ (mg lt A1 B1 ++ (A2 ++ (B2 ++ Post)))))
    (ih2 : 0 < A2.length → 0 < B2.length → symR f N mid e b ((Pre ++ mg lt A1 B1) ++ (A2 ++ (B2 ++ Post))) ((Pre ++ mg lt A1 B1) ++ (mg lt A2 B2 ++ Post))) :
    Snd Tryz.prog (envOf Tryz.prog) 220 1 (tlN 10 symC) [(1, .d (.int .i64 a)), (20, .d (.int .i64 s)), (18, .d (.int .i64 mid)), (24, .d (.int .i64 e)), (3, .d (.int .i64 b)), (0, .own 0 0 N), (4, .func (f, 0) [])] [.dat false 2 ((Pre ++ (A1 ++ (B1 ++ (A2 ++ (B2 ++ Post))))).map dW)]
      (FinR (envOf Tryz.prog) 1 [] (.tuple []) [.dat false 2 (((Pre ++ mg lt A1 B1) ++ (mg lt A2 B2 ++ Post)).map dW)]) := by
  have tail := sym43 lt f (Pre ++ mg lt A1 B1) A2 B2 Post N mid e b he hb ih2
  simp only [symC, Tryz.f220, Option.getD_some, tlN] at tail ⊢
  refine Snd.upto envOf_ok hmix 1 _ ?_
  simp only [hdN, tlN]
  by_cases q3 : ((a : Int) < (s : Int))
  · by_cases q4 : ((s : Int) < (mid : Int))
    · simp (maxSteps := 2000000) -implicitDefEqProofs only [zz, evop, ev, tget, tput, ok, V.isUndef, intBin, guardOf, Ch.on, calleeOf, withArgs, told, ↓reduceIte, reduceCtorEq, Nat.reduceLT, Nat.reduceEqDiff, nilTest, q3, q4]
      refine acall_ref [0] (ih1 (by omega) (by omega)) (by first | rfl | simp [renL, V.ren, frρ, renL_ds]) (by simp) rfl (by simp) (by simp) (by intro j hj; match j, hj with | 0, _ => exact ⟨by simp [hget], rfl⟩) ?_
      try simp (maxSteps := 2000000) -implicitDefEqProofs only [zz, tput, hput, ↓reduceIte, Nat.reduceLT, Blk.ren, V.ren, renL, frameH, putL, cutK_normal]
      rw [← List.append_assoc Pre (mg lt A1 B1)]
      exact Snd.weak (Weak.trimsM 1 (by simp) rfl (by simp [tget, V.lower, lowerL]) (by simp [Blk.lower])) tail
    · have eB : B1 = [] := List.length_eq_zero_iff.1 (by omega)
      subst eB
      rw [mg_nil'] at tail ⊢
      simp (maxSteps := 2000000) -implicitDefEqProofs only [zz, evop, ev, tget, tput, ok, V.isUndef, intBin, guardOf, Ch.on, told, ↓reduceIte, Nat.reduceLT, Nat.reduceEqDiff, nilTest, cutK_normal, q3, q4]
      rw [← List.append_assoc Pre A1]
      exact Snd.weak (Weak.trimsM 1 (by simp) rfl (by simp [tget, V.lower, lowerL]) (by simp [Blk.lower])) tail
  · have eA : A1 = [] := List.length_eq_zero_iff.1 (by omega)
    subst eA
    rw [mg_nil] at tail ⊢
    simp (maxSteps := 2000000) -implicitDefEqProofs only [zz, evop, ev, ofVal, tget, tput, ok, V.isUndef, intBin, guardOf, Ch.on, told, ↓reduceIte, Nat.reduceLT, Nat.reduceEqDiff, nilTest, cutK_normal, q3]
    rw [← List.append_assoc Pre]
    exact Snd.weak (Weak.trimsM 1 (by simp) rfl (by simp [tget, V.lower, lowerL]) (by simp [Blk.lower])) tail

theorem sym39 (lt : Int × Int → Int × Int → Bool) (f : Nat) (Pre A1 B1 A2 B2 Post : List (Int × Int)) (N a s m mid e b : Nat) (hN : (Pre ++ (A1 ++ (A2 ++ (B1 ++ (B2 ++ Post))))).length = N) (hN' : N ≤ 1000000) (ha : a = Pre.length) (hs : s = a + A1.length) (hmm : m = s + A2.length) (hem : e = m + B1.length) (hm : mid = s + B1.length) (he : e = mid + A2.length) (hb : b = e + B2.length)
    (ih1 : 0 < A1.length → 0 < B1.length → symR f N a s mid (Pre ++ (A1 ++ (B1 ++ (A2 ++ (B2 ++ Post))))) (Pre ++ (mg lt A1 B1 ++ (A2 ++ (B2 ++ Post)))))
    (ih2 : 0 < A2.length → 0 < B2.length → symR f N mid e b ((Pre ++ mg lt A1 B1) ++ (A2 ++ (B2 ++ Post))) ((Pre ++ mg lt A1 B1) ++ (mg lt A2 B2 ++ Post))) :
    Snd Tryz.prog (envOf Tryz.prog) 220 1 (tlN 9 symC) [(1, .d (.int .i64 a)), (20, .d (.int .i64 s)), (2, .d (.int .i64 m)), (18, .d (.int .i64 mid)), (24, .d (.int .i64 e)), (3, .d (.int .i64 b)), (0, .own 0 0 N), (4, .func (f, 0) [])] [.dat false 2 (((Pre ++ A1) ++ (A2 ++ (B1 ++ (B2 ++ Post)))).map dW)]
      (FinR (envOf Tryz.prog) 1 [] (.tuple []) [.dat false 2 (((Pre ++ mg lt A1 B1) ++ (mg lt A2 B2 ++ Post)).map dW)]) := by
  have tail := sym41 lt f Pre A1 B1 A2 B2 Post N a s mid e b hs hm he hb ih1 ih2
  simp only [symC, Tryz.f220, Option.getD_some, tlN] at tail ⊢
  refine Snd.upto envOf_ok hmix 1 _ ?_
  simp only [hdN, tlN]
  simp only [List.length_append] at hN
  by_cases q1 : ((s : Int) < (m : Int))
  · by_cases q2 : ((m : Int) < (e : Int))
    · simp (maxSteps := 2000000) -implicitDefEqProofs only [zz, evop, ev, tget, tput, ok, V.isUndef, intBin, guardOf, Ch.on, calleeOf, withArgs, told, ↓reduceIte, reduceCtorEq, Nat.reduceLT, Nat.reduceEqDiff, nilTest, q1, q2]
      refine acall_ref [0] (r_rotate (Pre ++ A1) A2 B1 (B2 ++ Post) N s m e (by simp; omega) hN' (by simp; omega) (by omega) (by omega) (by omega) (by omega) f) (by first | rfl | simp [renL, V.ren, frρ, renL_ds]) (by simp) rfl (by simp) (by simp) (by intro j hj; match j, hj with | 0, _ => exact ⟨by simp [hget], rfl⟩) ?_
      try simp (maxSteps := 2000000) -implicitDefEqProofs only [zz, tput, hput, ↓reduceIte, Nat.reduceLT, Blk.ren, V.ren, renL, frameH, putL, cutK_normal]
      rw [List.append_assoc Pre A1]
      exact Snd.weak (Weak.trimsM 1 (by simp) rfl (by simp [tget, V.lower, lowerL]) (by simp [Blk.lower])) tail
    · have eB : B1 = [] := List.length_eq_zero_iff.1 (by omega)
      subst eB
      simp (maxSteps := 2000000) -implicitDefEqProofs only [zz, evop, ev, tget, tput, ok, V.isUndef, intBin, guardOf, Ch.on, told, ↓reduceIte, Nat.reduceLT, Nat.reduceEqDiff, nilTest, cutK_normal, q1, q2]
      rw [List.append_assoc Pre A1]
      simp only [List.nil_append] at tail ⊢
      exact Snd.weak (Weak.trimsM 1 (by simp) rfl (by simp [tget, V.lower, lowerL]) (by simp [Blk.lower])) tail
  · have eA : A2 = [] := List.length_eq_zero_iff.1 (by omega)
    subst eA
    simp (maxSteps := 2000000) -implicitDefEqProofs only [zz, evop, ev, ofVal, tget, tput, ok, V.isUndef, intBin, guardOf, Ch.on, told, ↓reduceIte, Nat.reduceLT, Nat.reduceEqDiff, nilTest, cutK_normal, q1]
    rw [List.append_assoc Pre A1]
    simp only [List.nil_append] at tail ⊢
    exact Snd.weak (Weak.trimsM 1 (by simp) rfl (by simp [tget, V.lower, lowerL]) (by simp [Blk.lower])) tail


theorem sym32 (c : Int × Int → Int × Int → Int) (f : Nat) (hc : ∀ x y, CSpec Tryz.prog f [dW x, dW y] (.int .i64 (c x y))) (hnt : ∀ x y z, lts c x y = false → lts c y z = false → lts c x z = false) (hir : ∀ x, lts c x x = false)
    (Pre A B Post : List (Int × Int)) (N a m mid b s0 r0 k : Nat) (hk : A.length + B.length ≤ k + 1) (hN : (Pre ++ (A ++ (B ++ Post))).length = N) (hN' : N ≤ 1000000) (ha : a = Pre.length) (hm : m = a + A.length) (hb : b = m + B.length) (hA1 : 1 < A.length) (hB1 : 1 < B.length) (hmid : (a + b) / 2 = mid) (hSA : Srt (lts c) A) (hSB : Srt (lts c) B)
    (hsr : (mid < m ∧ s0 = mid + m - b ∧ r0 = mid) ∨ (m ≤ mid ∧ s0 = a ∧ r0 = m))
    (ih : ∀ (Pre A B Post : List (Int × Int)) (N a m b : Nat), A.length + B.length ≤ k → (Pre ++ (A ++ (B ++ Post))).length = N → N ≤ 1000000 → a = Pre.length → m = a + A.length → b = m + B.length → 0 < A.length → 0 < B.length → Srt (lts c) A → Srt (lts c) B → symR f N a m b (Pre ++ (A ++ (B ++ Post))) (Pre ++ (mg (lts c) A B ++ Post))) :
    Snd Tryz.prog (envOf Tryz.prog) 220 1 (tlN 6 symC) [(20, .d (.int .i64 s0)), (21, .d (.int .i64 r0)), (19, .d (.int .i64 ((mid + m : Nat) : Int))), (1, .d (.int .i64 a)), (2, .d (.int .i64 m)), (18, .d (.int .i64 mid)), (3, .d (.int .i64 b)), (0, .own 0 0 N), (4, .func (f, 0) [])] [.dat false 2 ((Pre ++ (A ++ (B ++ Post))).map dW)]
      (FinR (envOf Tryz.prog) 1 [] (.tuple []) [.dat false 2 ((Pre ++ (mg (lts c) A B ++ Post)).map dW)]) := by
  have tail := fun (A1 B1 A2 B2 : List (Int × Int)) (s e : Nat) h1 h2 h3 h4 h5 h6 h7 h8 h9 => sym39 (lts c) f Pre A1 B1 A2 B2 Post N a s m mid e b h1 hN' ha h2 h3 h4 h5 h6 h7 h8 h9
  simp only [symC, Tryz.f220, Option.getD_some, tlN] at tail ⊢
  have hN0 := hN
  simp only [List.length_append] at hN
  have hwp : IntKind.i64.wrap (((mid + m : Nat) : Int) - 1) = ((mid + m - 1 : Nat) : Int) := by rw [wrap_in (by omega)]; omega
  refine Snd.upto envOf_ok hmix 3 _ ?_
  simp only [hdN, tlN]
  simp (maxSteps := 2000000) -implicitDefEqProofs only [zz, evop, ev, ofVal, tget, tput, ok, V.isUndef, intBin, Ch.on, ↓reduceIte, Nat.reduceLT, Nat.reduceEqDiff, nilTest, hwp]
  refine wloop_ind (σ := Nat × Nat) (fun s => s.2 - s.1) (fun s => [(20, .d (.int .i64 ((s.1 : Nat) : Int))), (21, .d (.int .i64 ((s.2 : Nat) : Int))), (22, .d (.int .i64 ((mid + m - 1 : Nat) : Int))), (19, .d (.int .i64 ((mid + m : Nat) : Int))), (18, .d (.int .i64 (mid : Int))), (0, .own 0 0 N), (1, .d (.int .i64 a)), (2, .d (.int .i64 m)), (3, .d (.int .i64 b)), (4, .func (f, 0) [])])
    (fun s => [.dat false 2 ((Pre ++ (A ++ (B ++ Post))).map dW)]) (fun s => s0 ≤ s.1 ∧ s.1 ≤ s.2 ∧ s.2 ≤ r0 ∧ (∀ k x y, s0 ≤ k → k < s.1 → A[k - a]? = some x → B[mid - 1 - k]? = some y → ¬ c y x < 0) ∧ (∀ k x y, s.2 ≤ k → k < r0 → A[k - a]? = some x → B[mid - 1 - k]? = some y → c y x < 0))
    (s0, r0) ⟨Nat.le_refl _, by simp only; omega, Nat.le_refl _, fun k x y h1 h2 => by simp only at h2; omega, fun k x y h1 h2 => by simp only at h1; omega⟩ (Weak.sub (by simp [tget] <;> omega)) ?_
  rintro ⟨s, r⟩ ⟨hs1, hs2, hs3, hlo, hhi⟩
  simp only at hs1 hs2 hs3 hlo hhi
  rcases Nat.lt_or_ge s r with hsr' | hsr'
  · have h' : (((s : Nat) : Int) < ((r : Nat) : Int)) := by omega
    have hws : IntKind.i64.wrap (((s : Nat) : Int) + ((r : Nat) : Int)) = ((s + r : Nat) : Int) := by rw [wrap_in (by omega)]; omega
    have hwh := half_u (s + r) (by omega)
    obtain ⟨h, hh, hh1, hh2⟩ : ∃ h, (s + r) / 2 = h ∧ s ≤ h ∧ h < r := ⟨(s + r) / 2, rfl, by omega, by omega⟩
    rw [hh] at hwh
    have hwq : IntKind.i64.wrap (((mid + m - 1 : Nat) : Int) - (h : Int)) = ((mid + m - 1 - h : Nat) : Int) := by rw [wrap_in (by omega)]; omega
    have hwi : IntKind.i64.wrap ((h : Int) + 1) = ((h + 1 : Nat) : Int) := by rw [wrap_in (by omega)]; omega
    have hx : A[h - a]? = some (A[h - a]'(by omega)) := List.getElem?_eq_getElem (by omega)
    have hy : B[mid - 1 - h]? = some (B[mid - 1 - h]'(by omega)) := List.getElem?_eq_getElem (by omega)
    obtain ⟨x, hx'⟩ : ∃ x, x = A[h - a]'(by omega) := ⟨_, rfl⟩
    obtain ⟨y, hy'⟩ : ∃ y, y = B[mid - 1 - h]'(by omega) := ⟨_, rfl⟩
    rw [← hx'] at hx
    rw [← hy'] at hy
    have gA : (Pre ++ (A ++ (B ++ Post)))[h]? = some x := by
      rw [List.getElem?_append_right (by omega), List.getElem?_append_left (by omega), ← hx]; congr 1; omega
    have gB : (Pre ++ (A ++ (B ++ Post)))[mid + m - 1 - h]? = some y := by
      rw [List.getElem?_append_right (by omega), List.getElem?_append_right (by omega), List.getElem?_append_left (by omega), ← hy]; congr 1; omega
    clear tail ih
    simp (maxSteps := 2000000) -implicitDefEqProofs only [zz, zE, evop, ev, ofVal, tget, tput, ok, V.isUndef, intBin, Ch.on, told, ↓reduceIte, Nat.reduceLT, Nat.reduceEqDiff, Int.reduceToNat, nilTest, h', hws, hwh]
    refine ⟨⟨by decide, by decide⟩, ?_⟩
    refine wdraw_plan [⟨[], false, [159, 160, 161, 162, 163, 164, 165, 166, 167, 168], [], false⟩, ⟨[], false, [158, 160, 161, 162, 165, 166, 167, 168], [0], false⟩, ⟨[], false, [158, 159, 161, 165, 166, 167, 168], [0, 1], false⟩, ⟨[], false, [158, 159, 160, 165, 166, 167, 168], [0, 1, 2], false⟩, ⟨[2, 3], false, [158, 159, 165, 166, 167, 168], [0, 1], false⟩, ⟨[1, 2, 3, 4], false, [158, 165, 166, 167, 168], [0], false⟩, ⟨[1, 2, 3, 4, 5], false, [158, 165, 166, 167, 168], [0], false⟩, ⟨[], false, [158, 159, 160, 161, 162, 163, 164, 166], [0, 1, 2, 3, 4, 5, 6], false⟩, ⟨[], false, [158, 159, 160, 161, 162, 163, 164, 165], [0, 1, 2, 3, 4, 5, 6, 7], false⟩, ⟨[7, 8], false, [158, 159, 160, 161, 162, 163, 164], [0, 1, 2, 3, 4, 5, 6], false⟩, ⟨[7, 8, 9], false, [158, 159, 160, 161, 162, 163, 164], [0, 1, 2, 3, 4, 5, 6], false⟩, ⟨[0, 1, 2, 3, 4, 5, 6, 7, 8, 9, 10], true, [], [], false⟩, ⟨[0, 1, 2, 3, 4, 5, 6, 7, 8, 9, 10, 11], true, [], [], false⟩, ⟨[0, 1, 2, 3, 4, 5, 6, 7, 8, 9, 10, 11, 12], true, [], [], false⟩] (by decide) ?_
    simp (maxSteps := 2000000) -implicitDefEqProofs only [zz, zE, evop, ev, ofVal, tget, tput, ok, V.isUndef, intBin, calleeOf, withArgs, hget, hput, V.cells, D.cells, V.isAgg, loadD, Blk.width, ↓reduceIte, reduceCtorEq, Nat.reduceLT, Nat.reduceEqDiff, Nat.reduceAdd, Nat.reduceLeDiff, dW, hwq, List.getElem?_map, gA, gB, Option.map_some, Int.natCast_nonneg]
    refine ⟨by omega, by omega, ?_⟩
    refine acall_flat (ds := [dW y, dW x]) (by simp only [xports, xport, dW]) (hc y x) rfl ?_
    simp (maxSteps := 2000000) -implicitDefEqProofs only [zz, evop, ev, ofVal, tget, tput, ok, V.isUndef, intBin, Ch.on, told, ↓reduceIte, Nat.reduceLT, Nat.reduceEqDiff, Nat.reduceAdd, nilTest, hwi]
    by_cases hcy : c y x < 0
    · simp (maxSteps := 2000000) -implicitDefEqProofs only [zz, ↓reduceIte, hcy]
      refine ⟨(s, h), ⟨hs1, by simp only; omega, by simp only; omega, hlo, fun k' x' y' h1 h2 hx2 hy2 => ?_⟩, by simp only; omega, Weak.trimsM 1 (by simp) rfl (by simp [tget, V.lower, lowerL]) (by simp [Blk.lower])⟩
      simp only at h1
      exact up_of hnt hSA (by omega) hx hx2 (low_of hnt hSB (by omega) hy2 hy hcy)
    · simp (maxSteps := 2000000) -implicitDefEqProofs only [zz, ↓reduceIte, hcy]
      refine ⟨(h + 1, r), ⟨by simp only; omega, by simp only; omega, hs3, fun k' x' y' h1 h2 hx2 hy2 => ?_, hhi⟩, by simp only; omega, Weak.trimsM 1 (by simp) rfl (by simp [tget, V.lower, lowerL]) (by simp [Blk.lower])⟩
      simp only at h2
      exact dn_of hnt hSA (by omega) hx hx2 (high_of hnt hSB (by omega) hy2 hy hcy)
  obtain rfl : s = r := by omega
  obtain ⟨i, hi⟩ : ∃ i, s - a = i := ⟨_, rfl⟩
  obtain ⟨j, hj⟩ : ∃ j, mid - s = j := ⟨_, rfl⟩
  have hsa : a ≤ s := by omega
  have hsm : s ≤ mid := by omega
  obtain ⟨hc1, hc2⟩ := cut_ok hnt hir hSA hSB (i := i) (j := j) (by omega) (by omega) (fun h1 h2 x y hx hy => by
      have := hlo (s - 1) x y (by omega) (by omega) (by rw [← hx]; congr 1; omega) (by rw [← hy]; congr 1; omega)
      simpa using this) (fun h1 h2 x y hx hy => by
      have := hhi s x y (by omega) (by omega) (by rw [← hx]; congr 1) (by rw [← hy]; congr 1; omega)
      simpa using this)
  obtain ⟨A1, hA1e⟩ : ∃ A1, A1 = A.take i := ⟨_, rfl⟩
  obtain ⟨A2, hA2e⟩ : ∃ A2, A2 = A.drop i := ⟨_, rfl⟩
  obtain ⟨B1, hB1e⟩ : ∃ B1, B1 = B.take j := ⟨_, rfl⟩
  obtain ⟨B2, hB2e⟩ : ∃ B2, B2 = B.drop j := ⟨_, rfl⟩
  have hAe : A = A1 ++ A2 := by rw [hA1e, hA2e, List.take_append_drop]
  have hBe : B = B1 ++ B2 := by rw [hB1e, hB2e, List.take_append_drop]
  have la1 : A1.length = i := by rw [hA1e]; simp; omega
  have la2 : A2.length = A.length - i := by rw [hA2e]; simp
  have lb1 : B1.length = j := by rw [hB1e]; simp; omega
  have lb2 : B2.length = B.length - j := by rw [hB2e]; simp
  have sA1 := hA1e ▸ hSA.take i
  have sA2 := hA2e ▸ hSA.drop i
  have sB1 := hB1e ▸ hSB.take j
  have sB2 := hB2e ▸ hSB.drop j
  rw [← hA1e, ← hB2e] at hc1
  rw [← hB1e, ← hA2e] at hc2
  have hlist : Pre ++ (A ++ (B ++ Post)) = (Pre ++ A1) ++ (A2 ++ (B1 ++ (B2 ++ Post))) := by rw [hAe, hBe]; simp
  have hfin : Pre ++ (mg (lts c) A B ++ Post) = (Pre ++ mg (lts c) A1 B1) ++ (mg (lts c) A2 B2 ++ Post) := by
    rw [hAe, hBe, mg_split A1 B1 hc1 hc2]; simp
  have hml := mg_len (lt := lts c) A1 B1
  have hwe : IntKind.i64.wrap (((mid + m : Nat) : Int) - (s : Int)) = ((m + j : Nat) : Int) := by rw [wrap_in (by omega)]; omega
  have h' : ¬ (((s : Nat) : Int) < ((s : Nat) : Int)) := by omega
  have tl := tail A1 B1 A2 B2 s (m + j) (by simp; omega) (by omega) (by omega) (by omega) (by omega) (by omega) (by omega)
    (fun g1 g2 => ih Pre A1 B1 (A2 ++ (B2 ++ Post)) N a s mid (by omega) (by simp; omega) hN' ha (by omega) (by omega) g1 g2 sA1 sB1)
    (fun g1 g2 => ih (Pre ++ mg (lts c) A1 B1) A2 B2 Post N mid (m + j) b (by omega) (by simp; omega) hN' (by simp; omega) (by omega) (by omega) g1 g2 sA2 sB2)
  rw [hlist, hfin]
  clear hlo hhi hlist hfin hc1 hc2 tail ih
  simp (maxSteps := 2000000) -implicitDefEqProofs only [zz, evop, ev, tget, tput, ok, V.isUndef, intBin, Ch.on, told, ↓reduceIte, Nat.reduceLT, Nat.reduceEqDiff, nilTest, cutK_normal, h', hwe]
  exact Snd.weak (Weak.sub (by simp [tget])) tl

theorem r_sym (c : Int × Int → Int × Int → Int) (f : Nat) (hc : ∀ x y, CSpec Tryz.prog f [dW x, dW y] (.int .i64 (c x y))) (hnt : ∀ x y z, lts c x y = false → lts c y z = false → lts c x z = false) (hir : ∀ x, lts c x x = false) : ∀ (k : Nat) (Pre A B Post : List (Int × Int)) (N a m b : Nat), A.length + B.length ≤ k → (Pre ++ (A ++ (B ++ Post))).length = N → N ≤ 1000000 → a = Pre.length → m = a + A.length → b = m + B.length → 0 < A.length → 0 < B.length →
    Srt (lts c) A → Srt (lts c) B → symR f N a m b (Pre ++ (A ++ (B ++ Post))) (Pre ++ (mg (lts c) A B ++ Post))
  | 0, Pre, A, B, Post, N, a, m, b, hk, _, _, _, _, _, hA, _, _, _ => by omega
  | k + 1, Pre, A, B, Post, N, a, m, b, hk, hN, hN', ha, hm, hb, hA, hB, hSA, hSB => by
    rcases Nat.lt_or_ge 1 A.length with hA1 | hA1
    rotate_left
    · match A, hA, hA1 with
      | [x], _, _ => exact r_sym_left c f hc x Pre B Post N a m b hN hN' ha (by simpa using hm) hb hB hnt hSB
    rcases Nat.lt_or_ge 1 B.length with hB1 | hB1
    rotate_left
    · match B, hB, hB1 with
      | [y], _, _ => exact r_sym_right c f hc y Pre A Post N a m b hN hN' ha hm (by simpa using hb) hA1 hnt hSA
    obtain ⟨mid, hmid⟩ : ∃ mid, (a + b) / 2 = mid := ⟨_, rfl⟩
    have tail := fun s0 r0 hsr => sym32 c f hc hnt hir Pre A B Post N a m mid b s0 r0 k hk hN hN' ha hm hb hA1 hB1 hmid hSA hSB hsr (r_sym c f hc hnt hir k)
    have hN0 := hN
    simp only [List.length_append] at hN
    have hw1 : IntKind.i64.wrap ((m : Int) - (a : Int)) = (A.length : Int) := by rw [wrap_in (by omega)]; omega
    have hw2 : IntKind.i64.wrap ((b : Int) - (m : Int)) = (B.length : Int) := by rw [wrap_in (by omega)]; omega
    have e0 : ((A.length : Int) == 1) = false := by rw [beq_eq_false_iff_ne]; omega
    have e1 : ((B.length : Int) == 1) = false := by rw [beq_eq_false_iff_ne]; omega
    have hwab : IntKind.i64.wrap ((a : Int) + (b : Int)) = ((a + b : Nat) : Int) := by rw [wrap_in (by omega)]; omega
    have hwmid := half_u (a + b) (by omega)
    rw [hmid] at hwmid
    have hwn : IntKind.i64.wrap ((mid : Int) + (m : Int)) = ((mid + m : Nat) : Int) := by rw [wrap_in (by omega)]; omega
    simp only [symC, Tryz.f220, Option.getD_some, tlN] at tail
    refine RSpec.of_snd envOf_ok hmix Tryz.func220 rfl (fun args w => Tryz.call220 args w) (by simp [Tryz.f220]) ?_
    simp only [Tryz.f220]
    refine Snd.upto envOf_ok hmix 6 _ ?_
    simp only [hdN, tlN]
    simp (maxSteps := 2000000) -implicitDefEqProofs only [zz, zE, evop, ev, ofVal, tget, tput, ok, V.isUndef, intBin, Ch.on, told, ↓reduceIte, reduceCtorEq, Nat.reduceLT, Nat.reduceEqDiff, Nat.reduceAdd, Int.reduceToNat, nilTest, initV, cutK_normal, hw1, hw2, e0, e1, hwab, hwmid, hwn]
    refine ⟨⟨by decide, by decide⟩, ?_⟩
    by_cases hlt : ((mid : Int) < (m : Int))
    · have hs0 : IntKind.i64.wrap (((mid + m : Nat) : Int) - (b : Int)) = ((mid + m - b : Nat) : Int) := by rw [wrap_in (by omega)]; omega
      simp (maxSteps := 2000000) -implicitDefEqProofs only [zz, ↓reduceIte, hlt, hs0]
      exact Snd.weak (Weak.sub (by simp [tget])) (tail (mid + m - b) mid (.inl ⟨by omega, rfl, rfl⟩))
    · simp (maxSteps := 2000000) -implicitDefEqProofs only [zz, ↓reduceIte, hlt]
      exact Snd.weak (Weak.sub (by simp [tget])) (tail a m (.inr ⟨by omega, rfl, rfl⟩))

end Go.Proofs.YtjhfpabldidlgaaGreat.AM

set_option linter.all false
namespace Go.Proofs.YtjhfpabldidlgaaGreat.AM
open Go

section
variable {α : Type} {lt : α → α → Bool}

theorem mg_mem {y : α} : ∀ {A B : List α}, y ∈ mg lt A B → y ∈ A ∨ y ∈ B
  | [], B, h => by rw [mg_nil] at h; exact .inr h
  | a :: A, [], h => by rw [mg_nil'] at h; exact .inl h
  | a :: A, b :: B, h => by
    rw [mg_cons] at h
    split at h
    · rcases List.mem_cons.1 h with rfl | h
      · exact .inl (by simp)
      · rcases mg_mem h with h | h
        · exact .inl (by simp [h])
        · exact .inr h
    · rcases List.mem_cons.1 h with rfl | h
      · exact .inr (by simp)
      · rcases mg_mem h with h | h
        · exact .inl h
        · exact .inr (by simp [h])

def PW (lt : α → α → Bool) (l : List α) : Prop := l.Pairwise (fun x y => lt y x = false)

theorem PW.srt {l : List α} (h : PW lt l) : Srt lt l := fun i j x y hij hx hy => by
  obtain ⟨hi, rfl⟩ := List.getElem?_eq_some_iff.1 hx
  obtain ⟨hj, rfl⟩ := List.getElem?_eq_some_iff.1 hy
  exact List.pairwise_iff_getElem.1 h i j hi hj hij

theorem cut_at (hnt : ∀ x y z, lt x y = false → lt y z = false → lt x z = false) {l : List α} (h : PW lt l) (x : α) : ∃ l1 l2, l = l1 ++ l2 ∧ (∀ y ∈ l1, lt x y = false) ∧ (∀ y ∈ l2, lt x y = true) := by
  induction l with
  | nil => exact ⟨[], [], rfl, by simp, by simp⟩
  | cons a r ih =>
    obtain ⟨h1, h2⟩ := List.pairwise_cons.1 h
    cases hx : lt x a with
    | true =>
      refine ⟨[], a :: r, rfl, by simp, fun y hy => ?_⟩
      rcases List.mem_cons.1 hy with rfl | hy
      · exact hx
      · cases hd : lt x y with
        | true => rfl
        | false => have := hnt x y a hd (h1 y hy); rw [hx] at this; cases this
    | false =>
      obtain ⟨l1, l2, rfl, g1, g2⟩ := ih h2
      refine ⟨a :: l1, l2, rfl, fun y hy => ?_, g2⟩
      rcases List.mem_cons.1 hy with rfl | hy
      · exact hx
      · exact g1 y hy

theorem insR_cut {l1 l2 : List α} {x : α} (h1 : ∀ y ∈ l1, lt x y = false) (h2 : ∀ y ∈ l2, lt x y = true) : insR lt x (l1 ++ l2) = l1 ++ x :: l2 := by
  have : insK lt x (l1 ++ l2) = l1.length := by
    refine insK_eq (by simp) (fun i hi y hy => ?_) ?_
    · rw [List.getElem?_append_right hi] at hy
      exact h2 y (List.mem_of_getElem? hy)
    · rcases Nat.eq_zero_or_pos l1.length with h | h
      · exact .inl h
      · refine .inr ⟨l1[l1.length - 1]'(by omega), ?_, h1 _ (List.getElem_mem _)⟩
        rw [List.getElem?_append_left (by omega), List.getElem?_eq_getElem (by omega)]
  unfold insR
  rw [this, List.take_left' rfl, List.drop_left' rfl]

theorem insR_pw (hnt : ∀ x y z, lt x y = false → lt y z = false → lt x z = false) (has : ∀ x y, lt x y = true → lt y x = false) {l : List α} (h : PW lt l) (x : α) : PW lt (insR lt x l) := by
  obtain ⟨l1, l2, rfl, g1, g2⟩ := cut_at hnt h x
  rw [insR_cut g1 g2]
  obtain ⟨p1, p2, p3⟩ := List.pairwise_append.1 h
  refine List.pairwise_append.2 ⟨p1, List.pairwise_cons.2 ⟨fun y hy => has _ _ (g2 y hy), p2⟩, fun a ha b hb => ?_⟩
  rcases List.mem_cons.1 hb with rfl | hb
  · exact g1 a ha
  · exact p3 a ha b hb

theorem isort_pw (hnt : ∀ x y z, lt x y = false → lt y z = false → lt x z = false) (has : ∀ x y, lt x y = true → lt y x = false) (l : List α) : PW lt (isort lt l) := by
  have : ∀ (l A : List α), PW lt A → PW lt (l.foldl (fun A x => insR lt x A) A) := by
    intro l
    induction l with
    | nil => intro A h; exact h
    | cons x l ih => intro A h; exact ih _ (insR_pw hnt has h x)
  exact this l [] List.Pairwise.nil

theorem mg_insR (hnt : ∀ x y z, lt x y = false → lt y z = false → lt x z = false) (has : ∀ x y, lt x y = true → lt y x = false) {L M : List α} (hL : PW lt L) (hM : PW lt M) (x : α) : mg lt L (insR lt x M) = insR lt x (mg lt L M) := by
  obtain ⟨L1, L2, rfl, a1, a2⟩ := cut_at hnt hL x
  obtain ⟨M1, M2, rfl, b1, b2⟩ := cut_at hnt hM x
  have c1 : ∀ l ∈ L1, ∀ m ∈ M2, lt m l = false := fun l hl m hm => hnt m x l (has _ _ (b2 m hm)) (a1 l hl)
  have c2 : ∀ m ∈ M1, ∀ l ∈ L2, lt m l = true := fun m hm l hl => by
    cases hd : lt m l with
    | true => rfl
    | false => have := hnt x m l (b1 m hm) hd; rw [a2 l hl] at this; cases this
  rw [insR_cut b1 b2, mg_split L1 M1 c1 c2, insR_cut (fun y hy => by rcases mg_mem hy with h | h; exact a1 y h; exact b1 y h) (fun y hy => by rcases mg_mem hy with h | h; exact a2 y h; exact b2 y h)]
  have e1 : M1 ++ x :: M2 = (M1 ++ [x]) ++ M2 := by simp
  rw [e1, mg_split L1 (M1 ++ [x]) c1 (fun y hy l hl => by
    rcases List.mem_append.1 hy with hy | hy
    · exact c2 y hy l hl
    · simp at hy; subst hy; exact a2 l hl)]
  have e2 := mg_split L1 M1 (A2 := []) (B2 := [x]) (lt := lt) (fun l hl y hy => by simp at hy; subst hy; exact a1 l hl) (by simp)
  rw [List.append_nil, mg_nil] at e2
  rw [e2]; simp

theorem isort_mg (hnt : ∀ x y z, lt x y = false → lt y z = false → lt x z = false) (has : ∀ x y, lt x y = true → lt y x = false) (A B : List α) : mg lt (isort lt A) (isort lt B) = isort lt (A ++ B) := by
  have : ∀ (n : Nat) (B : List α), B.length = n → mg lt (isort lt A) (isort lt B) = isort lt (A ++ B) := by
    intro n
    induction n with
    | zero => intro B hB; rw [List.length_eq_zero_iff.1 hB]; simp [isort, mg_nil']
    | succ n ih =>
      intro B hB
      have hne : B ≠ [] := fun e => by rw [e] at hB; simp at hB
      have e := List.dropLast_concat_getLast hne
      rw [← e, isort_snoc, mg_insR hnt has (isort_pw hnt has A) (isort_pw hnt has _), ih _ (by simp; omega), ← isort_snoc, List.append_assoc]
  exact this B.length B rfl

end
end Go.Proofs.YtjhfpabldidlgaaGreat.AM

set_option linter.all false
set_option maxRecDepth 100000
set_option maxHeartbeats 4000000
namespace Go.Proofs.YtjhfpabldidlgaaGreat.AM
open Go Go.RowKit

end Go.Proofs.YtjhfpabldidlgaaGreat.AM

set_option linter.all false
set_option maxRecDepth 100000
set_option maxHeartbeats 4000000
namespace Go.Proofs.YtjhfpabldidlgaaGreat.AM
open Go Go.RowKit

theorem sortPart_len (lt : Int × Int → Int × Int → Bool) (ws : List (Int × Int)) {a b : Nat} (hab : a ≤ b) (hb : b ≤ ws.length) : (sortPart lt ws a b).length = ws.length := by
  simp [sortPart, isort_length]; omega

theorem r_stable_two (ws : List (Int × Int)) (hl : 20 ≤ ws.length) (hl2 : ws.length < 40) (f : Nat) (c : Int × Int → Int × Int → Int) (hc : ∀ x y, CSpec Tryz.prog f [dW x, dW y] (.int .i64 (c x y)))
    (hnt : ∀ x y z, lts c x y = false → lts c y z = false → lts c x z = false) (has : ∀ x y, lts c x y = true → lts c y x = false) (hir : ∀ x, lts c x x = false) :
    RSpec Tryz.prog 185 [.own 0 0 ws.length, .d (.int .i64 ws.length), .func (f, 0) []] [.dat false 2 (ws.map dW)] (.tuple []) [.dat false 2 ((isort (lts c) ws).map dW)] := by
  obtain ⟨w1, hw1⟩ : ∃ w1, w1 = sortPart (lts c) ws 0 20 := ⟨_, rfl⟩
  obtain ⟨w2, hw2⟩ : ∃ w2, w2 = sortPart (lts c) w1 20 ws.length := ⟨_, rfl⟩
  have l1 : w1.length = ws.length := by rw [hw1]; exact sortPart_len _ _ (by omega) hl
  have l2 : w2.length = ws.length := by rw [hw2]; rw [sortPart_len _ _ (by omega) (by omega)]; exact l1
  have e1 : w1 = isort (lts c) (ws.take 20) ++ ws.drop 20 := by rw [hw1]; simp [sortPart]
  have e2 : w2 = isort (lts c) (ws.take 20) ++ isort (lts c) (ws.drop 20) := by
    have h20 : (isort (lts c) (ws.take 20)).length = 20 := by rw [isort_length]; simp; omega
    have t1 : w1.take 20 = isort (lts c) (ws.take 20) := by rw [e1]; exact List.take_left' h20
    have t2 : w1.drop 20 = ws.drop 20 := by rw [e1]; exact List.drop_left' h20
    have t3 : w1.drop ws.length = [] := List.drop_of_length_le (by omega)
    rw [hw2]; unfold sortPart
    have t4 : (ws.drop 20).take (ws.length - 20) = ws.drop 20 := List.take_of_length_le (by simp)
    rw [t1, t2, t3, t4, List.append_nil]
  have hR1 := r_insertion_W ws 0 20 (by omega) hl (by omega) f c hc
  have hR2 := r_insertion_W w1 20 ws.length (by omega) (by omega) (by omega) f c hc
  rw [← hw1] at hR1
  rw [← hw2, l1] at hR2
  have hR1' : RSpec Tryz.prog 219 [.own 0 0 ws.length, .d (.int .i64 0), .d (.int .i64 20), .func (f, 0) []] [.dat false 2 (ws.map dW)] (.tuple []) [.dat false 2 (w1.map dW)] := hR1
  have hR2' : RSpec Tryz.prog 219 [.own 0 0 ws.length, .d (.int .i64 20), .d (.int .i64 ws.length), .func (f, 0) []] [.dat false 2 (w1.map dW)] (.tuple []) [.dat false 2 (w2.map dW)] := hR2
  have hfin : isort (lts c) ws = mg (lts c) (isort (lts c) (ws.take 20)) (isort (lts c) (ws.drop 20)) := by
    rw [isort_mg hnt has, List.take_append_drop]
  have h40 : ¬ ((40 : Int) ≤ (ws.length : Int)) := by omega
  refine RSpec.of_awp envOf_ok hmix Tryz.func185 rfl (fun args w => Tryz.call185 args w) (by simp [Tryz.f185]) ?_
  simp only [Tryz.f185]
  simp (maxSteps := 2000000) -implicitDefEqProofs only [zz, evop, ev, ofVal, tget, tput, ok, V.isUndef, Ch.on, ↓reduceIte, Nat.reduceLT, Nat.reduceEqDiff, Nat.reduceAdd, initV]
  refine wloop_count 1 (fun i => [(0, .own 0 0 ws.length), (1, .d (.int .i64 ws.length)), (2, .func (f, 0) []), (6, .d (.int .i64 20)), (7, .d (.int .i64 (if i = 0 then 0 else 20))), (8, .d (.int .i64 (if i = 0 then 20 else 40)))]) (fun i => [.dat false 2 ((if i = 0 then ws else w1).map dW)]) (fun i => True) trivial (Weak.sub (by simp [tget])) (fun i hi _ => ?_) (fun _ => ?_)
  · obtain rfl : i = 0 := by omega
    have h' : ((20 : Int) ≤ (ws.length : Int)) := by omega
    have hwa : IntKind.i64.wrap 40 = 40 := wrap_in (by omega)
    simp (maxSteps := 2000000) -implicitDefEqProofs only [zz, evop, ev, tget, tput, ok, V.isUndef, intBin, Ch.on, calleeOf, withArgs, told, ↓reduceIte, reduceCtorEq, Nat.reduceLT, Nat.reduceEqDiff, nilTest, h']
    refine acall_ref [0] (hR1') (by first | rfl | simp [renL, V.ren, frρ, renL_ds]) (by simp) rfl (by simp) (by simp) (by intro j hj; match j, hj with | 0, _ => exact ⟨by simp [hget], rfl⟩) ?_
    try simp (maxSteps := 2000000) -implicitDefEqProofs only [zz, evop, ev, tget, tput, ok, V.isUndef, intBin, Ch.on, hput, ↓reduceIte, reduceCtorEq, Nat.reduceLT, Nat.reduceEqDiff, Int.reduceAdd, nilTest, Blk.ren, V.ren, renL, frameH, putL]
    exact Weak.sub (by simp [tget, hwa])
  · simp (maxSteps := 2000000) -implicitDefEqProofs only [zz, evop, ev, tget, tput, ok, V.isUndef, intBin, Ch.on, calleeOf, withArgs, told, ↓reduceIte, reduceCtorEq, Nat.reduceLT, Nat.reduceEqDiff, nilTest, h40, Nat.one_ne_zero]
    refine acall_ref [0] (hR2') (by first | rfl | simp [renL, V.ren, frρ, renL_ds]) (by simp) rfl (by simp) (by simp) (by intro j hj; match j, hj with | 0, _ => exact ⟨by simp [hget], rfl⟩) ?_
    try simp (maxSteps := 2000000) -implicitDefEqProofs only [zz, tput, hput, ↓reduceIte, Nat.reduceLT, Blk.ren, V.ren, renL, frameH, putL]
    refine wloop_count (if ws.length = 20 then 0 else 1) (fun i => [(0, .own 0 0 ws.length), (1, .d (.int .i64 ws.length)), (2, .func (f, 0) []), (6, .d (.int .i64 (if i = 0 then 20 else 40)))]) (fun i => [.dat false 2 ((if i = 0 then w2 else isort (lts c) ws).map dW)]) (fun i => True) trivial (Weak.sub (by simp [tget])) (fun i hi _ => ?_) (fun _ => ?_)
    · have hgt : 20 < ws.length := by
        split at hi
        · omega
        · omega
      have h20 : ((20 : Int) < (ws.length : Int)) := by omega
      obtain rfl : i = 0 := by split at hi <;> omega
      have hwm : IntKind.i64.wrap 40 = 40 := wrap_in (by omega)
      have hw20 : IntKind.i64.wrap 20 = 20 := wrap_in (by omega)
      have hsym := r_sym c f hc hnt hir (ws.length) [] (isort (lts c) (ws.take 20)) (isort (lts c) (ws.drop 20)) [] ws.length 0 20 ws.length (by simp [isort_length]; omega) (by simp [isort_length]; omega) (by omega) rfl (by simp [isort_length]; omega) (by simp [isort_length]; omega) (by simp [isort_length]; omega) (by simp [isort_length]; omega) (isort_pw hnt has _).srt (isort_pw hnt has _).srt
      simp only [symR, List.nil_append, List.append_nil] at hsym
      rw [← e2, ← hfin] at hsym
      have hsym' : RSpec Tryz.prog 220 [.own 0 0 ws.length, .d (.int .i64 0), .d (.int .i64 20), .d (.int .i64 ws.length), .func (f, 0) []] [.dat false 2 (w2.map dW)] (.tuple []) [.dat false 2 ((isort (lts c) ws).map dW)] := hsym
      simp (maxSteps := 2000000) -implicitDefEqProofs only [zz, evop, ev, ofVal, tget, tput, ok, V.isUndef, intBin, Ch.on, told, ↓reduceIte, reduceCtorEq, Nat.reduceLT, Nat.reduceEqDiff, nilTest, h20]
      refine wloop_count 0 (fun i => [(0, .own 0 0 ws.length), (1, .d (.int .i64 ws.length)), (2, .func (f, 0) []), (6, .d (.int .i64 20)), (7, .d (.int .i64 0)), (8, .d (.int .i64 40))]) (fun i => [.dat false 2 (w2.map dW)]) (fun i => True) trivial (Weak.sub (by simp [tget, hwm])) (fun i hi _ => by omega) (fun _ => ?_)
      simp (maxSteps := 2000000) -implicitDefEqProofs only [zz, evop, ev, tget, tput, ok, V.isUndef, intBin, Ch.on, calleeOf, withArgs, told, ↓reduceIte, reduceCtorEq, Nat.reduceLT, Nat.reduceEqDiff, Int.reduceAdd, nilTest, h40, hw20, h20]
      refine acall_ref [0] (hsym') (by first | rfl | simp [renL, V.ren, frρ, renL_ds]) (by simp) rfl (by simp) (by simp) (by intro j hj; match j, hj with | 0, _ => exact ⟨by simp [hget], rfl⟩) ?_
      try simp (maxSteps := 2000000) -implicitDefEqProofs only [zz, evop, ev, ofVal, tget, tput, ok, V.isUndef, intBin, Ch.on, hput, ↓reduceIte, reduceCtorEq, Nat.reduceLT, Nat.reduceEqDiff, nilTest, Blk.ren, V.ren, renL, frameH, putL]
      exact Weak.sub (by simp [tget, hwm])
    · by_cases h20 : ws.length = 20
      · have hn : ¬ ((20 : Int) < (ws.length : Int)) := by omega
        have hd : ws.drop 20 = [] := List.drop_of_length_le (by omega)
        have hw : w2 = isort (lts c) ws := by
          rw [hfin, e2, hd]; simp [isort, mg_nil']
        rw [if_pos h20]
        simp (maxSteps := 2000000) -implicitDefEqProofs only [zz, evop, ev, tget, tput, ok, V.isUndef, intBin, Ch.on, told, resOf, resVs, ↓reduceIte, reduceCtorEq, Nat.reduceLT, Nat.reduceEqDiff, nilTest, hn]
        rw [hw]
        exact Weak.sub (by simp [tget])
      · have hn : ¬ ((40 : Int) < (ws.length : Int)) := by omega
        rw [if_neg h20]
        simp (maxSteps := 2000000) -implicitDefEqProofs only [zz, evop, ev, tget, tput, ok, V.isUndef, intBin, Ch.on, told, resOf, resVs, ↓reduceIte, reduceCtorEq, Nat.reduceLT, Nat.reduceEqDiff, nilTest, hn, Nat.one_ne_zero]
        exact Weak.sub (by simp [tget])


theorem r_SortStable (ws : List (Int × Int)) (hl : ws.length < 40) (f : Nat) (c : Int × Int → Int × Int → Int) (hc : ∀ x y, CSpec Tryz.prog f [dW x, dW y] (.int .i64 (c x y)))
    (hnt : ∀ x y z, lts c x y = false → lts c y z = false → lts c x z = false) (has : ∀ x y, lts c x y = true → lts c y x = false) (hir : ∀ x, lts c x x = false) :
    RSpec Tryz.prog 130 [.own 0 0 ws.length, .func (f, 0) []] [.dat false 2 (ws.map dW)] (.tuple []) [.dat false 2 ((isort (lts c) ws).map dW)] := by
  rcases Nat.lt_or_ge ws.length 20 with h | h
  · exact r_SortStable_few ws h f c hc
  · have hR := r_stable_two ws h hl f c hc hnt has hir
    refine RSpec.of_awp envOf_ok hmix Tryz.func130 rfl (fun args w => Tryz.call130 args w) (by simp [Tryz.f130]) ?_
    simp only [Tryz.f130]
    simp (maxSteps := 2000000) -implicitDefEqProofs only [zz, zE, evop, ev, tget, tput, ok, V.isUndef, Ch.on, calleeOf, withArgs, hget, sliceOf, lenOf, ↓reduceIte, reduceCtorEq, Nat.reduceLT, Nat.reduceEqDiff, initV]
    refine acall_ref [0] (hR) (by first | rfl | simp [renL, V.ren, frρ, renL_ds]) (by simp) rfl (by simp) (by simp) (by intro j hj; match j, hj with | 0, _ => exact ⟨by simp [hget], rfl⟩) ?_
    try simp (maxSteps := 2000000) -implicitDefEqProofs only [zz, tput, hput, resOf, resVs, ↓reduceIte, Nat.reduceLT, Blk.ren, V.ren, renL, frameH, putL]
    exact Weak.sub (by simp [tget])

theorem cmpI_lt (a b : Int) : (cmpI a b < 0) ↔ a < b := by
  unfold cmpI; split
  · simp_all
  · split <;> simp_all

theorem o_Last (L : Lg) (hr : logR L = true) : FSpec Tryz.prog 77 [dLg L] (.own 0 0 (lastW L.1).length) [.dat false 2 ((lastW L.1 ++ List.replicate (L.1.length - (lastW L.1).length) (0, 0)).map dW)] := by
  have hl := (logR_len hr).1
  refine FSpec.of_awp envOf_ok hmix Tryz.func77 rfl (fun args w => Tryz.call77 args w) (by simp [Tryz.f77]) ?_
  simp only [Tryz.f77]
  simp (maxSteps := 2000000) -implicitDefEqProofs only [zz, zE, evop, ev, ofVal, tget, tput, ok, V.isUndef, initT, Ch.on, calleeOf, withArgs, hget, hput, V.cells, ↓reduceIte, Nat.reduceLT, Nat.reduceEqDiff, Nat.reduceAdd, Nat.reduceLeDiff, dLg]
  refine acall_flat' (c_W_Right L) rfl ?_
  try simp (maxSteps := 2000000) -implicitDefEqProofs only [zz, zE, evop, ev, ofVal, tget, tput, ok, V.isUndef, Ch.on, calleeOf, withArgs, told, hget, structAt, Blk.width, resOf, resV, resVs, ↓reduceIte, reduceCtorEq, Nat.reduceLT, Nat.reduceEqDiff, Nat.reduceAdd]
  simp (maxSteps := 2000000) -implicitDefEqProofs only [zz, ↓reduceIte, hr]
  have hw : ∀ x ∈ L.1.map dW, okEl 2 x = true := by
    intro x hx
    obtain ⟨y, _, rfl⟩ := List.mem_map.1 hx
    rfl
  have hrl : L.1.reverse.length = L.1.length := by simp
  refine acall_own' (o_Clone_W (L.1.map dW) (by simp; omega) hw) ?_
  try simp (maxSteps := 2000000) -implicitDefEqProofs only [zz, evop, ev, tget, tput, ok, V.isUndef, Ch.on, calleeOf, withArgs, tids, tidss, freeze, ↓reduceIte, Nat.reduceLT, shiftH, Blk.ren, V.ren]
  refine acall_ref [1] (r_Reverse_W L.1 (by omega)) (by first | rfl | simp [renL, V.ren, frρ, renL_ds]) (by simp) rfl (by simp) (by simp) (by intro j hj; match j, hj with | 0, _ => exact ⟨by simp [hget], rfl⟩) ?_
  try simp (maxSteps := 2000000) -implicitDefEqProofs only [zz, evop, ev, tget, tput, ok, V.isUndef, Ch.on, calleeOf, withArgs, hput, ↓reduceIte, Nat.reduceLT, Nat.reduceEqDiff, Nat.reduceAdd, Blk.ren, V.ren, renL, frameH, putL]
  refine acall_ref [1] ((hrl ▸ r_SortStable L.1.reverse (by omega) 131 (fun x y => cmpI x.1 y.1) c_Last1 (fun x y z h1 h2 => by simp [cmpI_lt] at *; omega) (fun x y h => by simp [cmpI_lt] at *; omega) (fun x => by simp [cmpI_lt]))) (by first | rfl | simp [renL, V.ren, frρ, renL_ds]) (by simp) rfl (by simp) (by simp) (by intro j hj; match j, hj with | 0, _ => exact ⟨by simp [hget], rfl⟩) ?_
  try simp (maxSteps := 2000000) -implicitDefEqProofs only [zz, evop, ev, tget, tput, ok, V.isUndef, Ch.on, calleeOf, withArgs, hput, ↓reduceIte, Nat.reduceLT, Nat.reduceEqDiff, Nat.reduceAdd, Blk.ren, V.ren, renL, frameH, putL]
  have hil : (isort (lts fun x y : Int × Int => cmpI x.1 y.1) L.1.reverse).length = L.1.length := by rw [isort_length]; exact hrl
  refine acall_ref [1] ((hil ▸ r_Compact_W (isort (lts fun x y : Int × Int => cmpI x.1 y.1) L.1.reverse) (by omega) 134 (fun a b => a.1 == b.1) c_Last2)) (by first | rfl | simp [renL, V.ren, frρ, renL_ds]) (by simp) rfl (by simp) (by simp) (by intro j hj; match j, hj with | 0, _ => exact ⟨by simp [hget], rfl⟩) ?_
  try simp (maxSteps := 2000000) -implicitDefEqProofs only [zz, evop, ev, tget, tput, ok, V.isUndef, Ch.on, hput, resOf, resV, resVs, ↓reduceIte, Nat.reduceLT, Nat.reduceAdd, Nat.reduceSub, Blk.ren, V.ren, frameH, putL, frρ]
  have e : lastW L.1 = cmpct (fun a b => a.1 == b.1) (isort (lts fun x y : Int × Int => cmpI x.1 y.1) L.1.reverse) := rfl
  rw [← e]
  refine Weak.pick [1] (by decide) (by simp) rfl (fun q hq => ?_) (fun i hi => ?_)
  · obtain rfl : q = _ := by simpa using hq
    exact .same _
  · match i, hi with
    | 0, _ => exact .dat _ _ _ rfl rfl
    | i + 1, hi => exact absurd hi (by simp)

theorem c_Last (L : Lg) : CSpec Tryz.prog 77 [dLg L] (.vec ((if logR L = true then lastW L.1 else []).map dW)) := by
  cases hr : logR L
  · simp only [Bool.false_eq_true, if_false, List.map_nil]
    refine CSpec.of_awp envOf_ok hmix Tryz.func77 rfl (fun args w => Tryz.call77 args w) (by simp [Tryz.f77]) ?_
    simp only [Tryz.f77]
    simp (maxSteps := 2000000) -implicitDefEqProofs only [zz, zE, evop, ev, ofVal, tget, tput, ok, V.isUndef, initT, Ch.on, calleeOf, withArgs, hget, hput, V.cells, ↓reduceIte, Nat.reduceLT, Nat.reduceEqDiff, Nat.reduceAdd, Nat.reduceLeDiff, dLg]
    refine acall_flat' (c_W_Right L) rfl ?_
    try simp (maxSteps := 2000000) -implicitDefEqProofs only [zz, zE, evop, ev, ofVal, tget, tput, ok, V.isUndef, Ch.on, calleeOf, withArgs, told, xport, hget, structAt, Blk.width, resOf, resV, resVs, ↓reduceIte, reduceCtorEq, Nat.reduceLT, Nat.reduceEqDiff, Nat.reduceAdd]
    simp (maxSteps := 2000000) -implicitDefEqProofs only [zz, ↓reduceIte, hr]
  · simp only [if_true]
    refine (o_Last L hr).cspec ?_
    simp only [xport, hget, List.drop_zero]
    rw [List.map_append, List.take_left' (by simp)]

end Go.Proofs.YtjhfpabldidlgaaGreat.AM

set_option linter.all false
set_option maxRecDepth 100000
set_option maxHeartbeats 8000000
namespace Go.Proofs.YtjhfpabldidlgaaGreat.AM
open Go Go.RowKit

structure Wl where
  heap : List (Bool × Int)
  tab : List (Int × Int)
  clock : Int
structure Cm where
  t : Ty
  phase : Int
  version : Int
  err : Int
def dWl (w : Wl) : D := .agg [.vec (w.heap.map dC), .vec (w.tab.map dW), .int .i64 w.clock]
def cmC (c : Cm) : List D := [.int .i64 c.t.who, .int .i64 c.t.snap, .int .i64 c.t.pc, .vec (c.t.regs.map dI), .vec (c.t.path.map dI), .vec (c.t.reads.map dRd), .vec (c.t.log.1.map dW), .vec (c.t.log.2.map dI), .vec (c.t.frames.map dFr), .int .i64 c.t.kind, .int .i64 c.t.why, .int .i64 c.phase, .int .i64 c.version, .int .i64 c.err]
def dCm (c : Cm) : D := .agg (cmC c)
def bC (c : Cm) : Blk := .box false [.d (.int .i64 c.t.who), .d (.int .i64 c.t.snap), .d (.int .i64 c.t.pc), .d (.vec (c.t.regs.map dI)), .d (.vec (c.t.path.map dI)), .d (.vec (c.t.reads.map dRd)), .d (.vec (c.t.log.1.map dW)), .d (.vec (c.t.log.2.map dI)), .d (.vec (c.t.frames.map dFr)), .d (.int .i64 c.t.kind), .d (.int .i64 c.t.why), .d (.int .i64 c.phase), .d (.int .i64 c.version), .d (.int .i64 c.err)]
def bW (w : Wl) : Blk := .box false [.d (.vec (w.heap.map dC)), .d (.vec (w.tab.map dW)), .d (.int .i64 w.clock)]

def newerR (n : Int) (r : Int × Int) : Bool := decide (n < r.1)
def mayW (w : Wl) : Bool := heapR w.heap && tableR w.tab && tickR w.clock && !(w.tab.any (newerR w.clock))
def cellsC (c : Cm) : List Int := (lastW c.t.log.1).map fun x => x.1
def zeroCm : Cm := ⟨zeroT, 0, 0, 0⟩
def begC (t : Ty) : Cm := if t.kind = 1 then (if t.log.1.length = 0 then ⟨t, 5, t.snap, 0⟩ else ⟨t, 0, 0, 0⟩) else zeroCm
def doneB (t : Ty) : Bool := decide (t.kind = 1)

theorem c_commit_Right1 (r : Int × Int) (w : Wl) : CSpec Tryz.prog 82 [dW r, .imm (dWl w) 0] (.bool (newerR w.clock r)) := by
  refine CSpec.of_awp envOf_ok hmix Tryz.func82 rfl (fun args w => Tryz.call82 args w) (by simp [Tryz.f82]) ?_
  simp only [Tryz.f82]
  simp (maxSteps := 2000000) -implicitDefEqProofs only [zz, zE, evop, ev, ofVal, tget, tput, ok, V.isUndef, initT, Ch.on, hget, hput, V.cells, D.cells, loadD, structAt, Blk.width, ↓reduceIte, reduceCtorEq, Nat.reduceLT, Nat.reduceEqDiff, Nat.reduceAdd, dW]
  unfold dWl newerR
  simp (maxSteps := 2000000) -implicitDefEqProofs only [zz, evop, ev, tget, tput, ok, V.isUndef, intBin, Ch.on, xport, resOf, resV, resVs, ↓reduceIte, Nat.reduceLT, Nat.reduceEqDiff, nilTest]

theorem c_commit_Right (w : Wl) : CSpec Tryz.prog 32 [dWl w] (.bool (mayW w)) := by
  refine CSpec.of_awp envOf_ok hmix Tryz.func32 rfl (fun args w => Tryz.call32 args w) (by simp [Tryz.f32]) ?_
  simp only [Tryz.f32]
  simp (maxSteps := 2000000) -implicitDefEqProofs only [zz, zE, evop, ev, tget, V.isUndef, initT, V.cells, ↓reduceIte]
  unfold dWl
  simp (maxSteps := 2000000) -implicitDefEqProofs only [zz, zE, evop, ev, ofVal, tget, tput, ok, V.isUndef, Ch.on, calleeOf, withArgs, hget, hput, structAt, Blk.width, ↓reduceIte, reduceCtorEq, Nat.reduceLT, Nat.reduceEqDiff, Nat.reduceAdd]
  refine acall_flat' (c_heap_Right w.heap) rfl ?_
  try simp (maxSteps := 2000000) -implicitDefEqProofs only [zz, zE, evop, ev, ofVal, tget, tput, ok, V.isUndef, guardOf, Ch.on, calleeOf, withArgs, xport, hget, structAt, Blk.width, resOf, resV, resVs, ↓reduceIte, reduceCtorEq, Nat.reduceLT, Nat.reduceEqDiff, Nat.reduceAdd]
  cases h0 : heapR w.heap with
  | false =>
    have hm : mayW w = false := by simp [mayW, h0]
    rw [hm]
    simp (maxSteps := 2000000) -implicitDefEqProofs only [zz, ↓reduceIte]
  | true =>
  simp (maxSteps := 2000000) -implicitDefEqProofs only [↓reduceIte]
  refine acall_flat' (c_stripe_Right w.tab) rfl ?_
  try simp (maxSteps := 2000000) -implicitDefEqProofs only [zz, zE, evop, ev, ofVal, tget, tput, ok, V.isUndef, guardOf, Ch.on, calleeOf, withArgs, xport, hget, structAt, Blk.width, resOf, resV, resVs, ↓reduceIte, reduceCtorEq, Nat.reduceLT, Nat.reduceEqDiff, Nat.reduceAdd]
  cases h1 : tableR w.tab with
  | false =>
    have hm : mayW w = false := by simp [mayW, h1]
    rw [hm]
    simp (maxSteps := 2000000) -implicitDefEqProofs only [zz, ↓reduceIte]
  | true =>
  simp (maxSteps := 2000000) -implicitDefEqProofs only [↓reduceIte]
  refine acall_flat' (c_tick_Right w.clock) rfl ?_
  try simp (maxSteps := 2000000) -implicitDefEqProofs only [zz, zE, evop, ev, ofVal, tget, tput, ok, V.isUndef, guardOf, Ch.on, calleeOf, withArgs, xport, hget, structAt, Blk.width, resOf, resV, resVs, ↓reduceIte, reduceCtorEq, Nat.reduceLT, Nat.reduceEqDiff, Nat.reduceAdd]
  cases h2 : tickR w.clock with
  | false =>
    have hm : mayW w = false := by simp [mayW, h2]
    rw [hm]
    simp (maxSteps := 2000000) -implicitDefEqProofs only [zz, ↓reduceIte]
  | true =>
  have htl := tableR_len h1
  have hm : mayW w = !(w.tab.any (newerR w.clock)) := by simp [mayW, h0, h1, h2]
  rw [hm]
  simp (maxSteps := 2000000) -implicitDefEqProofs only [↓reduceIte]
  have hc := c_ContainsFunc_R w.tab 82 [.imm (dWl w) 0] (newerR w.clock) (by omega) (by simp) (fun n _ => c_commit_Right1 n w)
  unfold dWl at hc
  refine acall_flat' (hc) rfl ?_
  try simp (maxSteps := 2000000) -implicitDefEqProofs only [zz, evop, ev, tget, tput, ok, V.isUndef, guardOf, Ch.on, xport, resOf, resV, resVs, ↓reduceIte, Nat.reduceLT, Nat.reduceEqDiff]

theorem c_commit_Begin (t : Ty) : CSpec Tryz.prog 30 [dT t] (.tuple [dCm (begC t), .int .i64 (if doneB t = true then 0 else 1)]) := by
  refine CSpec.of_awp envOf_ok hmix Tryz.func30 rfl (fun args w => Tryz.call30 args w) (by simp [Tryz.f30]) ?_
  simp only [Tryz.f30]
  simp (maxSteps := 2000000) -implicitDefEqProofs only [zz, zE, evop, ev, tget, V.isUndef, initT, V.cells, ↓reduceIte]
  unfold dT tyC
  simp (maxSteps := 2000000) -implicitDefEqProofs only [zz, zE, evop, ev, ofVal, tget, tput, ok, V.isUndef, intBin, Ch.on, told, xport, xports, hget, hput, V.cells, V.one, structAt, sliceOf, partsV, Blk.width, lenOf, splice, resOf, resV, resVs, ↓reduceIte, reduceCtorEq, Nat.reduceLT, Nat.reduceEqDiff, Nat.reduceAdd, Nat.reduceLeDiff, nilTest]
  by_cases hk : t.kind = 1
  case neg =>
    have e : (t.kind != 1) = true := by simpa using hk
    have hb : begC t = zeroCm := by unfold begC; rw [if_neg hk]
    have hd : doneB t = false := by simp [doneB, hk]
    rw [hb, hd]
    simp (maxSteps := 2000000) -implicitDefEqProofs only [zz, ↓reduceIte, e]
    rfl
  have e : (t.kind != 1) = false := by simpa using hk
  have hd : doneB t = true := by simp [doneB, hk]
  by_cases hl : t.log.1.length = 0
  · have e2 : ((t.log.1.length : Int) == 0) = true := by simp [hl]
    have hb : begC t = ⟨t, 5, t.snap, 0⟩ := by unfold begC; rw [if_pos hk, if_pos hl]
    rw [hb, hd, if_pos rfl]
    unfold dCm cmC
    simp (maxSteps := 2000000) -implicitDefEqProofs only [zz, ↓reduceIte, e, e2]
    refine wdraw_weak (Weak.sealed (T' := [(1, .d (.imm (dT t) 0)), (4, .ptr 2 0 0), (2, .ptr 1 0 0)]) [0] (by simp [tget, sealF, xport, xports, tids, tidss, hget, dT, tyC])) [⟨[], false, [16, 17, 18], [], true⟩, ⟨[0], false, [17, 18], [], true⟩, ⟨[], false, [16, 17], [0, 1], false⟩, ⟨[2], true, [16, 17], [], false⟩, ⟨[0, 1, 2, 3], true, [], [], false⟩, ⟨[0, 1, 2, 3, 4], true, [], [], false⟩] (by decide) ?_
    simp only [sealH, AM.freeze, hput, hget, Blk.ice, List.map_cons, List.map_nil, sealB, sealF, List.mem_singleton, dT, tyC]
    simp (maxSteps := 2000000) -implicitDefEqProofs only [zz, zE, evop, ev, ofVal, tget, tput, ok, V.isUndef, Ch.on, xport, xports, hget, hput, V.cells, D.cells, V.one, V.clo, clos, loadD, structAt, Blk.width, splice, D.over, resOf, resV, resVs, ↓reduceIte, reduceCtorEq, Nat.reduceLT, Nat.reduceEqDiff, Nat.reduceAdd, Nat.reduceLeDiff]
  · have e2 : ((t.log.1.length : Int) == 0) = false := by rw [beq_eq_false_iff_ne]; omega
    have hb : begC t = ⟨t, 0, 0, 0⟩ := by unfold begC; rw [if_pos hk, if_neg hl]
    rw [hb, hd, if_pos rfl]
    unfold dCm cmC
    simp (maxSteps := 2000000) -implicitDefEqProofs only [zz, ↓reduceIte, e, e2]

def phaseW (c : Cm) (w : Wl) : (Cm × Wl) × Int :=
  if c.phase = 0 then ((c, { w with tab := (lockR w.tab c.t.who (cellsC c)).1 }), (lockR w.tab c.t.who (cellsC c)).2)
  else if c.phase = 1 then (if (tickNext w.clock).2 = 0 then (({ c with version := (tickNext w.clock).1 }, { w with clock := (tickNext w.clock).1 }), 0) else ((c, w), (tickNext w.clock).2))
  else if c.phase = 2 then ((c, w), validR c.t.reads w.tab c.t.who)
  else if c.phase = 3 then ((c, { w with heap := (heapPut w.heap (lastW c.t.log.1)).1 }), (heapPut w.heap (lastW c.t.log.1)).2)
  else ((c, { w with tab := (stampR w.tab c.t.who c.version).1 }), (stampR w.tab c.t.who c.version).2)

theorem r_c_next (c : Cm) (w : Wl) : RSpec Tryz.prog 139 [.ptr 0 0 0, .ptr 1 0 0] [bC c, bW w] (.d (.int .i64 (tickNext w.clock).2))
    [bC (if (tickNext w.clock).2 = 0 then { c with version := (tickNext w.clock).1 } else c), bW (if (tickNext w.clock).2 = 0 then { w with clock := (tickNext w.clock).1 } else w)] := by
  refine RSpec.of_awp envOf_ok hmix Tryz.func139 rfl (fun args w => Tryz.call139 args w) (by simp [Tryz.f139]) ?_
  simp only [Tryz.f139]
  simp (maxSteps := 2000000) -implicitDefEqProofs only [zz, evop, ev, ofVal, tget, tput, ok, V.isUndef, Ch.on, hget, isPtr, Blk.width, ↓reduceIte, reduceCtorEq, Nat.reduceLT, Nat.reduceEqDiff, Nat.reduceAdd, initV]
  unfold bC bW
  simp (maxSteps := 2000000) -implicitDefEqProofs only [zz, zE, evop, ev, tget, tput, ok, V.isUndef, Ch.on, calleeOf, withArgs, hget, structAt, Blk.width, ↓reduceIte, reduceCtorEq, Nat.reduceLT, Nat.reduceAdd]
  refine acall_flat' (c_tick_Next w.clock) rfl ?_
  try simp (maxSteps := 2000000) -implicitDefEqProofs only [zz, zE, evop, ev, ofVal, tget, tput, ok, V.isUndef, intBin, Ch.on, told, hget, hput, V.cells, V.one, structAt, isPtr, Blk.width, splice, resOf, resV, resVs, ↓reduceIte, reduceCtorEq, Nat.reduceLT, Nat.reduceEqDiff, Nat.reduceAdd, Nat.reduceLeDiff, nilTest]
  by_cases h0 : (tickNext w.clock).2 = 0
  · have e : ((tickNext w.clock).2 == 0) = true := by simpa using h0
    simp only [if_pos h0]
    simp (maxSteps := 2000000) -implicitDefEqProofs only [↓reduceIte, e]
    exact Weak.trimsM 2 (by simp) rfl (by simp [tget, V.lower, lowerL]) (by simp [Blk.lower, lowerL, V.lower])
  · have e : ((tickNext w.clock).2 == 0) = false := by simpa using h0
    simp only [if_neg h0]
    simp (maxSteps := 2000000) -implicitDefEqProofs only [zz, ↓reduceIte, e]
    exact Weak.trimsM 2 (by simp) rfl (by simp [tget, V.lower, lowerL]) (by simp [Blk.lower, lowerL, V.lower])

theorem r_c_check (c : Cm) (w : Wl) (hl : c.t.reads.length ≤ 1000000) : RSpec Tryz.prog 140 [.ptr 0 0 0, .ptr 1 0 0] [bC c, bW w] (.d (.int .i64 (validR c.t.reads w.tab c.t.who))) [bC c, bW w] := by
  refine RSpec.of_awp envOf_ok hmix Tryz.func140 rfl (fun args w => Tryz.call140 args w) (by simp [Tryz.f140]) ?_
  simp only [Tryz.f140]
  simp (maxSteps := 2000000) -implicitDefEqProofs only [zz, evop, ev, ofVal, tput, ok, V.isUndef, Ch.on, ↓reduceIte, Nat.reduceLT, Nat.reduceAdd, initV]
  unfold bC bW
  try skip
  refine wdraw_plan [⟨[], false, [10, 11, 12, 13, 14, 15, 16, 17, 18], [], false⟩, ⟨[0], false, [10, 11, 12, 13, 14, 15, 16, 17, 18], [], false⟩, ⟨[0, 1], false, [10, 11, 12, 13, 14, 15, 16, 17, 18], [], false⟩, ⟨[0, 1, 2], false, [10, 11, 12, 13, 14, 15, 16, 17, 18], [], false⟩, ⟨[0, 1, 2, 3], false, [10, 11, 12, 13, 14, 15, 16, 17, 18], [], false⟩, ⟨[], false, [5, 6, 7, 8, 9, 14, 15, 16, 17, 18], [0, 1, 2, 3, 4], false⟩, ⟨[5], false, [5, 6, 7, 8, 9, 14, 15, 16, 17, 18], [0, 1, 2, 3, 4], false⟩, ⟨[5, 6], false, [5, 6, 7, 8, 9, 14, 15, 16, 17, 18], [0, 1, 2, 3, 4], false⟩, ⟨[5, 6, 7], false, [5, 6, 7, 8, 9, 14, 15, 16, 17, 18], [0, 1, 2, 3, 4], false⟩, ⟨[], false, [5, 6, 7, 8, 9, 10, 11, 12, 13], [0, 1, 2, 3, 4, 5, 6, 7, 8], false⟩, ⟨[9], false, [5, 6, 7, 8, 9, 10, 11, 12, 13], [0, 1, 2, 3, 4, 5, 6, 7, 8], false⟩, ⟨[9, 10], false, [5, 6, 7, 8, 9, 10, 11, 12, 13], [0, 1, 2, 3, 4, 5, 6, 7, 8], false⟩, ⟨[9, 10, 11], false, [5, 6, 7, 8, 9, 10, 11, 12, 13], [0, 1, 2, 3, 4, 5, 6, 7, 8], false⟩, ⟨[9, 10, 11, 12], false, [5, 6, 7, 8, 9, 10, 11, 12, 13], [0, 1, 2, 3, 4, 5, 6, 7, 8], false⟩, ⟨[0, 1, 2, 3, 4, 5, 6, 7, 8, 9, 10, 11, 12, 13], true, [], [], false⟩, ⟨[0, 1, 2, 3, 4, 5, 6, 7, 8, 9, 10, 11, 12, 13, 14], true, [], [], false⟩] (by decide) ?_
  simp (maxSteps := 2000000) -implicitDefEqProofs only [zz, zE, evop, ev, ofVal, tget, tput, ok, V.isUndef, calleeOf, withArgs, hget, hput, D.cells, loadD, structAt, isPtr, Blk.width, ↓reduceIte, reduceCtorEq, Nat.reduceLT, Nat.reduceEqDiff, Nat.reduceAdd, Nat.reduceLeDiff]
  have hv := c_Valid c.t.reads w.tab c.t.who hl
  refine acall_flat' (hv) rfl ?_
  try simp (maxSteps := 2000000) -implicitDefEqProofs only [zz, evop, ev, tget, tput, ok, V.isUndef, Ch.on, resOf, resV, resVs, ↓reduceIte, Nat.reduceLT, Nat.reduceAdd]
  exact Weak.trimsM 2 (by simp) rfl (by simp [tget, V.lower, lowerL]) (by simp [Blk.lower, lowerL, V.lower])

theorem r_c_put (c : Cm) (w : Wl) (hg : logR c.t.log = true) : RSpec Tryz.prog 141 [.ptr 0 0 0, .ptr 1 0 0] [bC c, bW w] (.d (.int .i64 (heapPut w.heap (lastW c.t.log.1)).2)) [bC c, bW { w with heap := (heapPut w.heap (lastW c.t.log.1)).1 }] := by
  have hlen := logR_len hg
  have hll := lastW_len c.t.log.1
  have h2 := c_Last c.t.log
  rw [if_pos hg] at h2
  have hp := c_heap_Put w.heap (lastW c.t.log.1) (by omega)
  refine RSpec.of_awp envOf_ok hmix Tryz.func141 rfl (fun args w => Tryz.call141 args w) (by simp [Tryz.f141]) ?_
  simp only [Tryz.f141]
  simp (maxSteps := 2000000) -implicitDefEqProofs only [zz, evop, ev, ofVal, tput, ok, V.isUndef, Ch.on, ↓reduceIte, Nat.reduceLT, Nat.reduceAdd, initV]
  unfold bC bW
  try skip
  refine wdraw_plan [⟨[], false, [5, 6, 7, 8, 9, 10, 11, 12, 13, 14, 15, 16, 17, 18, 19], [], true⟩, ⟨[], false, [6, 11, 12, 13, 14, 15, 16], [0], false⟩, ⟨[1], false, [6, 11, 12, 13, 14, 15, 16], [0], false⟩, ⟨[1, 2], false, [6, 11, 12, 13, 14, 15, 16], [0], false⟩, ⟨[1, 2, 3], false, [6, 11, 12, 13, 14, 15, 16], [0], false⟩, ⟨[], false, [6, 7, 8, 9, 10], [0, 1, 2, 3, 4], false⟩, ⟨[5], false, [6, 7, 8, 9, 10], [0, 1, 2, 3, 4], false⟩, ⟨[5, 6], false, [6, 7, 8, 9, 10], [0, 1, 2, 3, 4], false⟩, ⟨[5, 6, 7], false, [6, 7, 8, 9, 10], [0, 1, 2, 3, 4], false⟩, ⟨[5, 6, 7, 8], false, [6, 7, 8, 9, 10], [0, 1, 2, 3, 4], false⟩, ⟨[5, 6, 7, 8, 9], false, [6, 7, 8, 9, 10], [0, 1, 2, 3, 4], false⟩, ⟨[1, 2, 3, 4, 5, 6, 7, 8, 9, 10], true, [6], [], false⟩, ⟨[1, 2, 3, 4, 5, 6, 7, 8, 9, 10, 11], false, [6], [0], false⟩, ⟨[1, 2, 3, 4, 5, 6, 7, 8, 9, 10, 11, 12], false, [6, 19], [0], false⟩, ⟨[1, 2, 3, 4, 5, 6, 7, 8, 9, 10, 11, 12], false, [6, 18, 19, 20, 21], [0, 13], true⟩, ⟨[0, 1, 2, 3, 4, 5, 6, 7, 8, 9, 10, 11, 12, 13], false, [19], [14], false⟩, ⟨[0, 1, 2, 3, 4, 5, 6, 7, 8, 9, 10, 11, 12, 13, 15], false, [19], [14], false⟩, ⟨[0, 1, 2, 3, 4, 5, 6, 7, 8, 9, 10, 11, 12, 13, 15, 16], true, [19], [], false⟩, ⟨[0, 1, 2, 3, 4, 5, 6, 7, 8, 9, 10, 11, 12, 13, 14, 15, 16, 17], true, [], [], false⟩] (by decide) ?_
  simp (maxSteps := 2000000) -implicitDefEqProofs only [zz, zE, evop, ev, ofVal, tget, tput, ok, V.isUndef, calleeOf, withArgs, hget, hput, D.cells, loadD, structAt, isPtr, Blk.width, ↓reduceIte, reduceCtorEq, Nat.reduceLT, Nat.reduceEqDiff, Nat.reduceAdd, Nat.reduceLeDiff]
  refine dcall_still' (h2) rfl ?_
  try simp (maxSteps := 2000000) -implicitDefEqProofs only [zz]
  refine acall_ice' (hp) ?_
  try simp (maxSteps := 2000000) -implicitDefEqProofs only [zz, zE, evop, ev, tget, tput, ok, V.isUndef, Ch.on, tids, tidss, hget, hput, freeze, V.cells, D.cells, V.one, structAt, isPtr, Blk.width, splice, D.over, resOf, resV, resVs, ↓reduceIte, reduceCtorEq, Nat.reduceLT, Nat.reduceEqDiff, Nat.reduceAdd, Nat.reduceSub, Nat.reduceLeDiff]
  exact Weak.trimsM 2 (by simp) rfl (by simp [tget, V.lower, lowerL]) (by simp [Blk.lower, lowerL, V.lower])

theorem r_c_stamp (c : Cm) (w : Wl) (hl : w.tab.length ≤ 1000000) : RSpec Tryz.prog 142 [.ptr 0 0 0, .ptr 1 0 0] [bC c, bW w] (.d (.int .i64 (stampR w.tab c.t.who c.version).2)) [bC c, bW { w with tab := (stampR w.tab c.t.who c.version).1 }] := by
  have hp := c_Stamp w.tab c.t.who c.version hl
  refine RSpec.of_awp envOf_ok hmix Tryz.func142 rfl (fun args w => Tryz.call142 args w) (by simp [Tryz.f142]) ?_
  simp only [Tryz.f142]
  simp (maxSteps := 2000000) -implicitDefEqProofs only [zz, evop, ev, ofVal, tput, ok, V.isUndef, Ch.on, ↓reduceIte, Nat.reduceLT, Nat.reduceAdd, initV]
  unfold bC bW
  try skip
  refine wdraw_plan [⟨[], false, [5, 6, 7, 8, 9, 10, 11, 12, 13, 14, 15, 16, 17, 18, 19, 20, 21, 22], [], true⟩, ⟨[], false, [6, 11, 12, 13, 14, 15, 16, 17, 18, 19], [0], false⟩, ⟨[1], false, [6, 11, 12, 13, 14, 15, 16, 17, 18, 19], [0], false⟩, ⟨[1, 2], false, [6, 11, 12, 13, 14, 15, 16, 17, 18, 19], [0], false⟩, ⟨[1, 2, 3], false, [6, 11, 12, 13, 14, 15, 16, 17, 18, 19], [0], false⟩, ⟨[], false, [6, 7, 8, 9, 10, 16, 17, 18, 19], [0, 1, 2, 3, 4], false⟩, ⟨[5], false, [6, 7, 8, 9, 10, 16, 17, 18, 19], [0, 1, 2, 3, 4], false⟩, ⟨[5, 6], false, [6, 7, 8, 9, 10, 16, 17, 18, 19], [0, 1, 2, 3, 4], false⟩, ⟨[5, 6, 7], false, [6, 7, 8, 9, 10, 16, 17, 18, 19], [0, 1, 2, 3, 4], false⟩, ⟨[5, 6, 7, 8], false, [6, 7, 8, 9, 10, 16, 17, 18, 19], [0, 1, 2, 3, 4], false⟩, ⟨[], false, [6, 7, 8, 9, 10, 11, 12, 13, 14, 15], [0, 1, 2, 3, 4, 5, 6, 7, 8, 9], false⟩, ⟨[10], false, [6, 7, 8, 9, 10, 11, 12, 13, 14, 15], [0, 1, 2, 3, 4, 5, 6, 7, 8, 9], false⟩, ⟨[10, 11], false, [6, 7, 8, 9, 10, 11, 12, 13, 14, 15], [0, 1, 2, 3, 4, 5, 6, 7, 8, 9], false⟩, ⟨[10, 11, 12], false, [6, 7, 8, 9, 10, 11, 12, 13, 14, 15], [0, 1, 2, 3, 4, 5, 6, 7, 8, 9], false⟩, ⟨[1, 2, 3, 4, 5, 6, 7, 8, 9, 10, 11, 12, 13], true, [6], [], false⟩, ⟨[1, 2, 3, 4, 5, 6, 7, 8, 9, 10, 11, 12, 13, 14], false, [6], [0], false⟩, ⟨[1, 2, 3, 4, 5, 6, 7, 8, 9, 10, 11, 12, 13, 14, 15], false, [6, 22], [0], false⟩, ⟨[1, 2, 3, 4, 5, 6, 7, 8, 9, 10, 11, 12, 13, 14, 15], false, [6, 21, 22, 23, 24], [0, 16], true⟩, ⟨[0, 1, 2, 3, 4, 5, 6, 7, 8, 9, 10, 11, 12, 13, 14, 15, 16], false, [22], [17], false⟩, ⟨[0, 1, 2, 3, 4, 5, 6, 7, 8, 9, 10, 11, 12, 13, 14, 15, 16, 18], false, [22], [17], false⟩, ⟨[0, 1, 2, 3, 4, 5, 6, 7, 8, 9, 10, 11, 12, 13, 14, 15, 16, 18, 19], true, [22], [], false⟩, ⟨[0, 1, 2, 3, 4, 5, 6, 7, 8, 9, 10, 11, 12, 13, 14, 15, 16, 17, 18, 19, 20], true, [], [], false⟩] (by decide) ?_
  simp (maxSteps := 2000000) -implicitDefEqProofs only [zz, zE, evop, ev, ofVal, tget, tput, ok, V.isUndef, calleeOf, withArgs, hget, hput, D.cells, loadD, structAt, isPtr, Blk.width, ↓reduceIte, reduceCtorEq, Nat.reduceLT, Nat.reduceEqDiff, Nat.reduceAdd, Nat.reduceLeDiff]
  refine acall_ice' (hp) ?_
  try simp (maxSteps := 2000000) -implicitDefEqProofs only [zz, zE, evop, ev, tget, tput, ok, V.isUndef, Ch.on, tids, tidss, hget, hput, freeze, V.cells, D.cells, V.one, structAt, isPtr, Blk.width, splice, D.over, resOf, resV, resVs, ↓reduceIte, reduceCtorEq, Nat.reduceLT, Nat.reduceEqDiff, Nat.reduceAdd, Nat.reduceSub, Nat.reduceLeDiff]
  exact Weak.trimsM 2 (by simp) rfl (by simp [tget, V.lower, lowerL]) (by simp [Blk.lower, lowerL, V.lower])

theorem r_c_lock (c : Cm) (w : Wl) (hg : logR c.t.log = true) : RSpec Tryz.prog 138 [.ptr 0 0 0, .ptr 1 0 0] [bC c, bW w] (.d (.int .i64 (lockR w.tab c.t.who (cellsC c)).2)) [bC c, bW { w with tab := (lockR w.tab c.t.who (cellsC c)).1 }] := by
  have hlen := logR_len hg
  have hll := lastW_len c.t.log.1
  have h2 := c_Last c.t.log
  rw [if_pos hg] at h2
  have hcl : (cellsC c).length ≤ 1000000 := by simp [cellsC]; omega
  have hp := c_Lock w.tab c.t.who (cellsC c) hcl
  have hcc : cellsC c = (lastW c.t.log.1).map fun x => x.1 := rfl
  have hL : (lastW c.t.log.1).length ≤ 24 := by omega
  generalize cellsC c = cs at hp hcc hcl ⊢
  generalize lastW c.t.log.1 = L at h2 hcc hL
  refine RSpec.of_awp envOf_ok hmix Tryz.func138 rfl (fun args w => Tryz.call138 args w) (by simp [Tryz.f138]) ?_
  simp only [Tryz.f138]
  simp (maxSteps := 2000000) -implicitDefEqProofs only [zz, evop, ev, ofVal, tget, tput, ok, V.isUndef, Ch.on, hget, isPtr, Blk.width, ↓reduceIte, reduceCtorEq, Nat.reduceLT, Nat.reduceAdd, initV]
  unfold bC bW
  simp (maxSteps := 2000000) -implicitDefEqProofs only [zz, zE, evop, ev, tget, tput, ok, Ch.on, calleeOf, withArgs, hget, structAt, Blk.width, ↓reduceIte, reduceCtorEq, Nat.reduceLT, Nat.reduceAdd, Nat.reduceLeDiff]
  refine acall_ice' (h2) ?_
  try simp (maxSteps := 2000000) -implicitDefEqProofs only [zz, zE, evop, ev, ofVal, tget, tput, ok, V.isUndef, Ch.on, tids, tidss, freeze, sliceOf, lenOf, ↓reduceIte, Nat.reduceLT]
  refine wloop_count L.length (fun i => [(15, .d (.int .i64 i)), (14, .d (.int .i64 L.length)), (13, .d (.vec (L.map dW))), (0, .ptr 0 0 0), (1, .ptr 1 0 0), (5, .own 2 0 i)]) (fun i => [bC c, bW w, .dat false 1 (((L.take i).map fun x => x.1).map dI)]) (fun _ => True) trivial ?_ (fun i hi _ => ?_) (fun _ => ?_)
  · refine Weak.pickD [0, 1, 9] (by decide) (by simp) (fun q hq => ?_) (fun i hi => ?_) (by simp) (fun i hi => ?_)
    · simp only [List.mem_cons, List.not_mem_nil, or_false] at hq
      rcases hq with rfl | rfl | rfl | rfl | rfl | rfl <;> first | exact .same _ | exact .nils 2 1 rfl
    · match i, hi with
      | 0, _ => exact .box false _ _ rfl rfl (.cons (.same _) (.cons (.same _) (.cons (.same _) (.cons (.same _) (.cons (.same _) (.cons (.same _) (.cons (.same _) (.cons (.same _) (.cons (.same _) (.cons (.same _) (.cons (.same _) (.cons (.same _) (.cons (.same _) (.cons (.same _) .nil))))))))))))))
      | 1, _ => exact .box false _ _ rfl rfl (.cons (.same _) (.cons (.same _) (.cons (.same _) .nil)))
      | 2, _ => first | exact .virt 1 rfl rfl | exact .dat _ _ _ rfl rfl
      | i + 3, hi => exact absurd hi (by simp)
    · match i, hi with
      | 0, _ => exact .inr rfl
      | 1, _ => exact .inr rfl
      | i + 2, hi => exact absurd hi (by omega)
  · have hx : L[i]? = some L[i] := List.getElem?_eq_getElem hi
    have h' : ((i : Int) < (L.length : Int)) := by omega
    have hw : IntKind.i64.wrap ((i : Int) + 1) = ((i + 1 : Nat) : Int) := by rw [wrap_in (by omega)]; omega
    have hT : (L.take (i + 1)).map (fun x => x.1) = (L.take i).map (fun x => x.1) ++ [L[i].1] := by rw [List.take_succ, hx, List.map_append]; rfl
    have e6 : List.take i (((L.take i).map fun x => x.1).map dI) = ((L.take i).map fun x => x.1).map dI := by rw [List.take_of_length_le]; simp; omega
    simp (maxSteps := 2000000) -implicitDefEqProofs only [zz, zE, evop, ev, ofVal, tget, tput, ok, V.isUndef, intBin, Ch.on, told, hget, hput, V.cells, D.cells, V.one, V.toD, loadD, structAt, sliceOf, partsD, Blk.width, elems, splice, ↓reduceIte, reduceCtorEq, Nat.reduceLT, Nat.reduceEqDiff, Nat.reduceAdd, Nat.reduceMul, Nat.reduceLeDiff, nilTest, dW, h', bC, bW, List.getElem?_map, hx, Option.map_some, Int.natCast_nonneg, hw]
    refine ⟨⟨by omega, okEl_I [L[i].1]⟩, ?_⟩
    rw [hT, e6, List.map_append]
    refine Weak.pickD [0, 1, 5] (by decide) (by simp) (fun q hq => ?_) (fun i hi => ?_) (by simp) (fun i hi => ?_)
    · simp only [List.mem_cons, List.not_mem_nil, or_false] at hq
      rcases hq with rfl | rfl | rfl | rfl | rfl | rfl <;> first | exact .same _ | exact .nils 2 1 rfl
    · match i, hi with
      | 0, _ => exact .box false _ _ rfl rfl (.cons (.same _) (.cons (.same _) (.cons (.same _) (.cons (.same _) (.cons (.same _) (.cons (.same _) (.cons (.same _) (.cons (.same _) (.cons (.same _) (.cons (.same _) (.cons (.same _) (.cons (.same _) (.cons (.same _) (.cons (.same _) .nil))))))))))))))
      | 1, _ => exact .box false _ _ rfl rfl (.cons (.same _) (.cons (.same _) (.cons (.same _) .nil)))
      | 2, _ => first | exact .virt 1 rfl rfl | exact .dat _ _ _ rfl rfl
      | i + 3, hi => exact absurd hi (by simp)
    · match i, hi with
      | 0, _ => exact .inr rfl
      | 1, _ => exact .inr rfl
      | i + 2, hi => exact absurd hi (by omega)
  · have h' : ¬ ((L.length : Int) < (L.length : Int)) := by omega
    rw [List.take_length, ← hcc]
    have hcl2 : cs.length = L.length := by rw [hcc]; simp
    simp (maxSteps := 2000000) -implicitDefEqProofs only [zz, evop, ev, tget, tput, intBin, Ch.on, told, ↓reduceIte, Nat.reduceLT, Nat.reduceEqDiff, nilTest, h', bC, bW]
    refine wdraw_weak (T' := [(0, .ptr 0 0 0), (1, .ptr 1 0 0), (5, .d (.vec (cs.map dI)))]) (H' := [bC c, bW w]) (Weak.close [2] 2 (by simp) ?_ ?_ (by simp [bC, bW, Blk.lower, lowerL, V.lower])) [⟨[], false, [25, 26, 27, 28, 29, 30, 31, 32, 33, 34, 35, 36, 37, 38, 39], [], true⟩, ⟨[], false, [26, 31, 32, 33, 34, 35, 36], [0], false⟩, ⟨[1], false, [26, 31, 32, 33, 34, 35, 36], [0], false⟩, ⟨[1, 2], false, [26, 31, 32, 33, 34, 35, 36], [0], false⟩, ⟨[1, 2, 3], false, [26, 31, 32, 33, 34, 35, 36], [0], false⟩, ⟨[], false, [26, 27, 28, 29, 30, 36], [0, 1, 2, 3, 4], false⟩, ⟨[5], false, [26, 27, 28, 29, 30, 36], [0, 1, 2, 3, 4], false⟩, ⟨[5, 6], false, [26, 27, 28, 29, 30, 36], [0, 1, 2, 3, 4], false⟩, ⟨[5, 6, 7], false, [26, 27, 28, 29, 30, 36], [0, 1, 2, 3, 4], false⟩, ⟨[5, 6, 7, 8], false, [26, 27, 28, 29, 30, 36], [0, 1, 2, 3, 4], false⟩, ⟨[], false, [26, 27, 28, 29, 30, 31, 32, 33, 34, 35], [0, 1, 2, 3, 4, 5, 6, 7, 8, 9], false⟩, ⟨[1, 2, 3, 4, 5, 6, 7, 8, 9, 10], true, [26], [], false⟩, ⟨[1, 2, 3, 4, 5, 6, 7, 8, 9, 10, 11], false, [26], [0], false⟩, ⟨[1, 2, 3, 4, 5, 6, 7, 8, 9, 10, 11, 12], false, [26, 39], [0], false⟩, ⟨[1, 2, 3, 4, 5, 6, 7, 8, 9, 10, 11, 12], false, [26, 38, 39, 40, 41], [0, 13], true⟩, ⟨[0, 1, 2, 3, 4, 5, 6, 7, 8, 9, 10, 11, 12, 13], false, [39], [14], false⟩, ⟨[0, 1, 2, 3, 4, 5, 6, 7, 8, 9, 10, 11, 12, 13, 15], false, [39], [14], false⟩, ⟨[0, 1, 2, 3, 4, 5, 6, 7, 8, 9, 10, 11, 12, 13, 15, 16], true, [39], [], false⟩, ⟨[0, 1, 2, 3, 4, 5, 6, 7, 8, 9, 10, 11, 12, 13, 14, 15, 16, 17], true, [], [], false⟩] (by decide) ?_
    · rfl
    · have ht : List.take L.length (cs.map dI) = cs.map dI := by rw [List.take_of_length_le]; simp [hcl2]
      simp [tget, sealF, hget, V.lower, ht]
    · simp (maxSteps := 2000000) -implicitDefEqProofs only [zz, zE, evop, ev, ofVal, tget, tput, ok, V.isUndef, calleeOf, withArgs, hget, hput, D.cells, loadD, structAt, isPtr, Blk.width, ↓reduceIte, reduceCtorEq, Nat.reduceLT, Nat.reduceEqDiff, Nat.reduceAdd, Nat.reduceLeDiff, bC, bW]
      refine acall_ice' (hp) ?_
      try simp (maxSteps := 2000000) -implicitDefEqProofs only [zz, zE, evop, ev, tget, tput, ok, V.isUndef, Ch.on, tids, tidss, hget, hput, freeze, V.cells, D.cells, V.one, structAt, isPtr, Blk.width, splice, D.over, resOf, resV, resVs, ↓reduceIte, reduceCtorEq, Nat.reduceLT, Nat.reduceEqDiff, Nat.reduceAdd, Nat.reduceSub, Nat.reduceLeDiff]
      exact Weak.trimsM 2 (by simp) rfl (by simp [tget, V.lower, lowerL]) (by simp [Blk.lower, lowerL, V.lower])
end Go.Proofs.YtjhfpabldidlgaaGreat.AM

namespace Go.Proofs.YtjhfpabldidlgaaGreat.AM
open Go Go.RowKit
theorem Ephase : envOf Tryz.prog 158 = some { agg := false, cmp := [], size := 1, bytes := 8, shape := .other, zero := [.d .nilf] } := by kernel_rfl
end Go.Proofs.YtjhfpabldidlgaaGreat.AM

set_option linter.all false
set_option maxRecDepth 100000
set_option maxHeartbeats 8000000
namespace Go.Proofs.YtjhfpabldidlgaaGreat.AM
open Go Go.RowKit

def goneC (c : Cm) (w : Wl) (e : Int) : Cm × Wl := ({ c with phase := 6, version := 0, err := e }, { w with tab := letR w.tab c.t.who })
def stpC (c : Cm) (w : Wl) : Cm × Wl := if (phaseW c w).2 ≠ 0 then goneC (phaseW c w).1.1 (phaseW c w).1.2 (phaseW c w).2 else ({ (phaseW c w).1.1 with phase := (phaseW c w).1.1.phase + 1 }, (phaseW c w).1.2)
def mayC (c : Cm) (w : Wl) : Bool := mayW w && decide (0 ≤ c.phase) && decide (c.phase < 5)
def cmStep (c : Cm) (w : Wl) : Cm × Wl := if mayC c w = true then stpC c w else (c, w)
def phs : List D := [.func (138, 0) [], .func (139, 0) [], .func (140, 0) [], .func (141, 0) [], .func (142, 0) []]

structure CmOk (c : Cm) : Prop where
  log : logR c.t.log = true
  reads : c.t.reads.length ≤ 1000000

theorem c_phases : CSpec Tryz.prog 84 [] (.vec phs) := by
  refine CSpec.of_awp envOf_ok hmix Tryz.func84 rfl (fun args w => Tryz.call84 args w) (by simp [Tryz.f84]) ?_
  simp only [Tryz.f84]
  simp (maxSteps := 2000000) -implicitDefEqProofs only [zz, zE, evop, ev, ofVal, tget, tput, ok, V.isUndef, initT, Ch.on, xport, hget, hput, V.cells, D.cells, V.one, clos, V.toD, sliceOf, partsD, resOf, resV, resVs, ↓reduceIte, Nat.reduceLT, Nat.reduceAdd, Nat.reduceMul, Nat.reduceLeDiff, Ephase]
  rfl

theorem c_gone (c : Cm) (w : Wl) (e : Int) (hl : w.tab.length ≤ 1000000) : CSpec Tryz.prog 85 [dCm c, dWl w, .int .i64 e] (.tuple [dCm (goneC c w e).1, dWl (goneC c w e).2]) := by
  have h1 := c_Let w.tab c.t.who hl
  refine CSpec.of_awp envOf_ok hmix Tryz.func85 rfl (fun args w => Tryz.call85 args w) (by simp [Tryz.f85]) ?_
  simp only [Tryz.f85]
  simp (maxSteps := 2000000) -implicitDefEqProofs only [zz, zE, evop, ev, tget, V.isUndef, initT, V.cells, ↓reduceIte, Nat.reduceAdd]
  unfold dCm cmC dWl goneC
  simp (maxSteps := 2000000) -implicitDefEqProofs only [zz, zE, evop, ev, ofVal, tget, tput, ok, V.isUndef, Ch.on, calleeOf, withArgs, hget, hput, V.cells, V.one, structAt, Blk.width, splice, ↓reduceIte, reduceCtorEq, Nat.reduceLT, Nat.reduceEqDiff, Nat.reduceAdd, Nat.reduceLeDiff]
  refine acall_ice' (h1) ?_
  try simp (maxSteps := 2000000) -implicitDefEqProofs only [zz, zE, evop, ev, tget, tput, ok, Ch.on, tids, tidss, hget, hput, freeze, V.cells, V.one, structAt, Blk.width, splice, ↓reduceIte, reduceCtorEq, Nat.reduceLT, Nat.reduceEqDiff, Nat.reduceAdd, Nat.reduceLeDiff]
  refine wdraw_weak (Weak.sealed (T' := [(3, .d (.imm (dCm (goneC c w e).1) 0)), (4, .d (.imm (dWl (goneC c w e).2) 0)), (6, .ptr 2 0 0), (7, .ptr 3 0 0)]) [0, 1] (by simp [tget, sealF, xport, xports, tids, tidss, hget, dCm, cmC, dWl, goneC])) [⟨[], false, [20], [], false⟩, ⟨[], false, [19, 20], [0], true⟩, ⟨[0], true, [20], [], false⟩, ⟨[0, 1, 2], true, [], [], false⟩] (by decide) ?_
  simp only [sealH, AM.freeze, hput, hget, Blk.ice, List.map_cons, List.map_nil, sealB, sealF, List.mem_cons, dCm, cmC, dWl, goneC]
  simp (maxSteps := 2000000) -implicitDefEqProofs only [zz, zE, evop, ev, tget, tput, ok, Ch.on, xport, xports, hget, hput, V.cells, D.cells, V.one, loadD, splice, resOf, resV, resVs, ↓reduceIte, Nat.reduceLT, Nat.reduceEqDiff, Nat.reduceAdd, Nat.reduceLeDiff]

theorem phase_r {c : Cm} {w : Wl} (ho : CmOk c) (hl : w.tab.length ≤ 1000000) (h0 : 0 ≤ c.phase) (h5 : c.phase < 5) : ∃ f, phs[c.phase.toNat]? = some (.func (f, 0) []) ∧ RSpec Tryz.prog f [.ptr 0 0 0, .ptr 1 0 0] [bC c, bW w] (.d (.int .i64 (phaseW c w).2)) [bC (phaseW c w).1.1, bW (phaseW c w).1.2] := by
  have hp : c.phase = 0 ∨ c.phase = 1 ∨ c.phase = 2 ∨ c.phase = 3 ∨ c.phase = 4 := by omega
  rcases hp with h | h | h | h | h
  · refine ⟨_, by rw [h]; rfl, ?_⟩
    have := r_c_lock c w ho.log
    unfold phaseW
    rw [if_pos h]
    exact this
  · refine ⟨_, by rw [h]; rfl, ?_⟩
    have := r_c_next c w
    unfold phaseW
    rw [if_neg (by omega), if_pos h]
    by_cases h0 : (tickNext w.clock).2 = 0
    · simp only [if_pos h0] at this ⊢
      rw [h0] at this
      exact this
    · simp only [if_neg h0] at this ⊢
      exact this
  · refine ⟨_, by rw [h]; rfl, ?_⟩
    have := r_c_check c w ho.reads
    unfold phaseW
    rw [if_neg (by omega), if_neg (by omega), if_pos h]
    exact this
  · refine ⟨_, by rw [h]; rfl, ?_⟩
    have := r_c_put c w ho.log
    unfold phaseW
    rw [if_neg (by omega), if_neg (by omega), if_neg (by omega), if_pos h]
    exact this
  · refine ⟨_, by rw [h]; rfl, ?_⟩
    have := r_c_stamp c w hl
    unfold phaseW
    rw [if_neg (by omega), if_neg (by omega), if_neg (by omega), if_neg (by omega)]
    exact this

theorem lockR_len (t : List (Int × Int)) (who : Int) (cs : List Int) : (lockR t who cs).1.length = t.length := by
  unfold lockR
  split
  · split
    · rfl
    · simp only [setsL_len]
  · rfl
theorem stampR_len (t : List (Int × Int)) (who v : Int) : (stampR t who v).1.length = t.length := by
  unfold stampR
  split
  · split
    · rfl
    · simp only [setsL_len]
  · rfl
theorem phaseW_t (c : Cm) (w : Wl) : (phaseW c w).1.1.t = c.t ∧ (phaseW c w).1.1.phase = c.phase ∧ (phaseW c w).1.1.err = c.err ∧ (phaseW c w).1.2.tab.length = w.tab.length := by
  unfold phaseW
  split
  · exact ⟨rfl, rfl, rfl, lockR_len ..⟩
  · split
    · split
      · exact ⟨rfl, rfl, rfl, rfl⟩
      · exact ⟨rfl, rfl, rfl, rfl⟩
    · split
      · exact ⟨rfl, rfl, rfl, rfl⟩
      · split
        · exact ⟨rfl, rfl, rfl, rfl⟩
        · exact ⟨rfl, rfl, rfl, stampR_len ..⟩

theorem c_commit_Step (c : Cm) (w : Wl) (ho : CmOk c) : CSpec Tryz.prog 37 [dCm c, dWl w] (.tuple [dCm (cmStep c w).1, dWl (cmStep c w).2, .int .i64 (if mayC c w = true then 0 else 1)]) := by
  have hr := c_commit_Right w
  have bad : mayC c w = false → cmStep c w = (c, w) := fun h => by simp [cmStep, h]
  refine CSpec.of_awp envOf_ok hmix Tryz.func37 rfl (fun args w => Tryz.call37 args w) (by simp [Tryz.f37]) ?_
  simp only [Tryz.f37]
  simp (maxSteps := 2000000) -implicitDefEqProofs only [zz, zE, evop, ev, tget, V.isUndef, initT, V.cells, ↓reduceIte]
  unfold dCm cmC dWl
  unfold dWl at hr
  simp (maxSteps := 2000000) -implicitDefEqProofs only [zz, zE, evop, ev, ofVal, tget, tput, ok, V.isUndef, Ch.on, calleeOf, withArgs, hget, hput, V.cells, ↓reduceIte, reduceCtorEq, Nat.reduceLT, Nat.reduceEqDiff, Nat.reduceAdd, Nat.reduceLeDiff]
  refine acall_flat' (hr) rfl ?_
  try simp (maxSteps := 2000000) -implicitDefEqProofs only [zz, zE, evop, ev, ofVal, tget, tput, ok, V.isUndef, intBin, guardOf, Ch.on, told, hget, structAt, Blk.width, ↓reduceIte, reduceCtorEq, Nat.reduceLT, Nat.reduceEqDiff, Nat.reduceAdd, nilTest]
  by_cases hm : mayC c w = true
  case neg =>
    have hm' : mayC c w = false := by simpa using hm
    rw [bad hm', hm']
    cases h0 : mayW w with
    | false =>
      simp (maxSteps := 2000000) -implicitDefEqProofs only [zz, ↓reduceIte]
      refine wdraw_weak (Weak.sealed (T' := [(2, .d (.imm (dCm c) 0)), (3, .d (.imm (dWl w) 0)), (4, .ptr 2 0 0), (5, .ptr 3 0 0)]) [0, 1] (by simp [tget, sealF, xport, xports, tids, tidss, hget, dCm, cmC, dWl])) [⟨[], false, [24], [], false⟩, ⟨[], false, [23, 24], [0], true⟩, ⟨[0], true, [24], [], false⟩, ⟨[0, 1, 2], true, [], [], false⟩, ⟨[0, 1, 2, 3], true, [], [], false⟩] (by decide) ?_
      simp only [sealH, AM.freeze, hput, hget, Blk.ice, List.map_cons, List.map_nil, sealB, sealF, List.mem_cons, dCm, cmC, dWl]
      simp (maxSteps := 2000000) -implicitDefEqProofs only [zz, zE, evop, ev, ofVal, tget, tput, ok, V.isUndef, Ch.on, xport, xports, hget, hput, V.cells, D.cells, V.one, loadD, splice, resOf, resV, resVs, ↓reduceIte, Nat.reduceLT, Nat.reduceEqDiff, Nat.reduceAdd, Nat.reduceLeDiff]
    | true =>
      by_cases p0 : c.phase < 0
      · simp (maxSteps := 2000000) -implicitDefEqProofs only [zz, ↓reduceIte, p0]
        refine wdraw_weak (Weak.sealed (T' := [(2, .d (.imm (dCm c) 0)), (3, .d (.imm (dWl w) 0)), (4, .ptr 2 0 0), (5, .ptr 3 0 0)]) [0, 1] (by simp [tget, sealF, xport, xports, tids, tidss, hget, dCm, cmC, dWl])) [⟨[], false, [24], [], false⟩, ⟨[], false, [23, 24], [0], true⟩, ⟨[0], true, [24], [], false⟩, ⟨[0, 1, 2], true, [], [], false⟩, ⟨[0, 1, 2, 3], true, [], [], false⟩] (by decide) ?_
        simp only [sealH, AM.freeze, hput, hget, Blk.ice, List.map_cons, List.map_nil, sealB, sealF, List.mem_cons, dCm, cmC, dWl]
        simp (maxSteps := 2000000) -implicitDefEqProofs only [zz, zE, evop, ev, ofVal, tget, tput, ok, V.isUndef, Ch.on, xport, xports, hget, hput, V.cells, D.cells, V.one, loadD, splice, resOf, resV, resVs, ↓reduceIte, Nat.reduceLT, Nat.reduceEqDiff, Nat.reduceAdd, Nat.reduceLeDiff]
      · have p5 : c.phase ≥ 5 := by
          refine Classical.byContradiction fun g => hm ?_
          have a1 : 0 ≤ c.phase := by omega
          have a2 : c.phase < 5 := by omega
          simp [mayC, h0, a1, a2]
        simp (maxSteps := 2000000) -implicitDefEqProofs only [zz, ↓reduceIte, p0, p5]
        refine wdraw_weak (Weak.sealed (T' := [(2, .d (.imm (dCm c) 0)), (3, .d (.imm (dWl w) 0)), (4, .ptr 2 0 0), (5, .ptr 3 0 0)]) [0, 1] (by simp [tget, sealF, xport, xports, tids, tidss, hget, dCm, cmC, dWl])) [⟨[], false, [24], [], false⟩, ⟨[], false, [23, 24], [0], true⟩, ⟨[0], true, [24], [], false⟩, ⟨[0, 1, 2], true, [], [], false⟩, ⟨[0, 1, 2, 3], true, [], [], false⟩] (by decide) ?_
        simp only [sealH, AM.freeze, hput, hget, Blk.ice, List.map_cons, List.map_nil, sealB, sealF, List.mem_cons, dCm, cmC, dWl]
        simp (maxSteps := 2000000) -implicitDefEqProofs only [zz, zE, evop, ev, ofVal, tget, tput, ok, V.isUndef, Ch.on, xport, xports, hget, hput, V.cells, D.cells, V.one, loadD, splice, resOf, resV, resVs, ↓reduceIte, Nat.reduceLT, Nat.reduceEqDiff, Nat.reduceAdd, Nat.reduceLeDiff]
  have hm2 := hm
  simp only [mayC, Bool.and_eq_true, decide_eq_true_eq] at hm2
  obtain ⟨⟨h0, g0⟩, g5⟩ := hm2
  have h0' := h0
  simp only [mayW, Bool.and_eq_true, Bool.not_eq_true'] at h0'
  have htl := tableR_len h0'.1.1.2
  have p0 : ¬ (c.phase < 0) := by omega
  have p5 : ¬ (c.phase ≥ 5) := by omega
  obtain ⟨f, hf, hrs⟩ := phase_r ho (w := w) (by omega) g0 g5
  obtain ⟨k1, k2, k3, k4⟩ := phaseW_t c w
  have hst : cmStep c w = stpC c w := by unfold cmStep; rw [if_pos hm]
  have hph := c_phases
  unfold phs at hph hf
  have hY : stpC c w = if (phaseW c w).2 ≠ 0 then goneC (phaseW c w).1.1 (phaseW c w).1.2 (phaseW c w).2 else ({ (phaseW c w).1.1 with phase := (phaseW c w).1.1.phase + 1 }, (phaseW c w).1.2) := rfl
  rw [hst, hm, if_pos rfl]
  generalize stpC c w = y at hY ⊢
  generalize phaseW c w = z at hrs k1 k2 k3 k4 hY
  unfold bC bW at hrs
  simp (maxSteps := 2000000) -implicitDefEqProofs only [zz, ↓reduceIte, h0, p0, p5]
  refine wdraw_weak (Weak.sealed (T' := [(2, .d (.imm (dCm c) 0)), (3, .d (.imm (dWl w) 0)), (4, .ptr 2 0 0), (5, .ptr 3 0 0)]) [0, 1] (by simp [tget, sealF, xport, xports, tids, tidss, hget, dCm, cmC, dWl])) [⟨[], false, [7, 8, 26], [], false⟩, ⟨[], false, [7, 8, 25, 26], [0], true⟩, ⟨[], false, [8, 25, 26], [0, 1], false⟩, ⟨[], false, [7, 25, 26], [0, 1, 2], false⟩, ⟨[0, 2, 3], true, [26], [], false⟩, ⟨[0, 1, 2, 3, 4], true, [], [], false⟩] (by decide) ?_
  simp only [sealH, AM.freeze, hput, hget, Blk.ice, List.map_cons, List.map_nil, sealB, sealF, List.mem_cons, dCm, cmC, dWl]
  simp (maxSteps := 2000000) -implicitDefEqProofs only [zz, zE, evop, ev, tget, tput, ok, Ch.on, hget, hput, V.cells, D.cells, V.one, loadD, splice, D.over, ↓reduceIte, Nat.reduceLT, Nat.reduceEqDiff, Nat.reduceAdd, Nat.reduceLeDiff]
  refine wdraw_plan [⟨[], false, [28, 29], [], false⟩, ⟨[], false, [27], [0], false⟩, ⟨[1], false, [27], [0], false⟩, ⟨[0, 1, 2], true, [], [], false⟩, ⟨[0, 1, 2, 3], true, [], [], false⟩, ⟨[0, 1, 2, 3, 4], true, [], [], false⟩, ⟨[0, 1, 2, 3, 4, 5], true, [], [], false⟩] (by decide) ?_
  simp (maxSteps := 2000000) -implicitDefEqProofs only [zz, zE, evop, ev, ofVal, tget, tput, ok, V.isUndef, calleeOf, withArgs, hput, D.cells, loadD, structAt, Blk.width, ↓reduceIte, reduceCtorEq, Nat.reduceLT, Nat.reduceEqDiff, Nat.reduceAdd, Nat.reduceLeDiff]
  refine dcall_still' (hph) rfl ?_
  try simp (maxSteps := 2000000) -implicitDefEqProofs only [Ephase]
  simp (maxSteps := 2000000) -implicitDefEqProofs only [zz, evop, ev, ofVal, tget, tput, ok, V.isUndef, Ch.on, calleeOf, withArgs, D.cells, loadD, ↓reduceIte, Nat.reduceLT, Nat.reduceEqDiff, Nat.reduceAdd, Ephase, hf, g0]
  refine acall_ref [6, 7] (hrs) (by first | rfl | simp [renL, V.ren, frρ, renL_ds]) (by simp) rfl (by simp) (by simp) (by intro j hj; match j, hj with | 0, _ => exact ⟨by simp [hget], rfl⟩ | 1, _ => exact ⟨by simp [hget], rfl⟩) ?_
  try simp (maxSteps := 2000000) -implicitDefEqProofs only [zz, zE, evop, ev, ofVal, tget, tput, ok, V.isUndef, intBin, Ch.on, calleeOf, withArgs, told, hget, hput, V.cells, V.one, structAt, Blk.width, splice, ↓reduceIte, reduceCtorEq, Nat.reduceLT, Nat.reduceEqDiff, Nat.reduceAdd, Nat.reduceLeDiff, nilTest, Blk.ren, V.ren, renL, frameH, putL]
  by_cases hz : z.2 = 0
  · have e : (z.2 != 0) = false := by simpa using hz
    have hw : IntKind.i64.wrap (z.1.1.phase + 1) = z.1.1.phase + 1 := by rw [wrap_in (by omega)]
    rw [if_neg (by simp [hz])] at hY
    subst hY
    simp (maxSteps := 2000000) -implicitDefEqProofs only [zz, ↓reduceIte, e, hw]
    trace_state
    refine wdraw_weak (Weak.sealed (T' := [(7, .d (.imm (dCm { z.1.1 with phase := z.1.1.phase + 1 }) 0)), (8, .d (.imm (dWl z.1.2) 0)), (4, .ptr 2 0 0), (5, .ptr 3 0 0)]) [6, 7] (by simp [tget, sealF, xport, xports, tids, tidss, hget, dCm, cmC, dWl])) [⟨[], false, [49], [], false⟩, ⟨[], false, [48, 49], [0], true⟩, ⟨[0], true, [49], [], false⟩, ⟨[0, 1, 2], true, [], [], false⟩, ⟨[0, 1, 2, 3], true, [], [], false⟩] (by decide) ?_
    simp only [sealH, AM.freeze, hput, hget, Blk.ice, List.map_cons, List.map_nil, sealB, sealF, List.mem_cons, dCm, cmC, dWl]
    simp (maxSteps := 2000000) -implicitDefEqProofs only [zz, zE, evop, ev, ofVal, tget, tput, ok, V.isUndef, Ch.on, xport, xports, hget, hput, V.cells, D.cells, V.one, loadD, splice, resOf, resV, resVs, ↓reduceIte, Nat.reduceLT, Nat.reduceEqDiff, Nat.reduceAdd, Nat.reduceLeDiff]
  · have e : (z.2 != 0) = true := by simpa using hz
    have hg := c_gone z.1.1 z.1.2 z.2 (by omega)
    rw [if_pos hz] at hY
    rw [← hY] at hg
    unfold dCm cmC dWl at hg
    simp (maxSteps := 2000000) -implicitDefEqProofs only [↓reduceIte, e]
    refine acall_ice' (hg) ?_
    try simp (maxSteps := 2000000) -implicitDefEqProofs only [zz, zE, evop, ev, tget, tput, ok, V.isUndef, Ch.on, tids, tidss, hget, hput, freeze, V.cells, V.one, splice, ↓reduceIte, Nat.reduceLT, Nat.reduceEqDiff, Nat.reduceAdd, Nat.reduceLeDiff]
    refine wdraw_weak (Weak.sealed (T' := [(7, .d (.imm (dCm y.1) 0)), (8, .d (.imm (dWl y.2) 0)), (4, .ptr 2 0 0), (5, .ptr 3 0 0)]) [6, 7] (by simp [tget, sealF, xport, xports, tids, tidss, hget, dCm, cmC, dWl])) [⟨[], false, [43], [], false⟩, ⟨[], false, [42, 43], [0], true⟩, ⟨[0], true, [43], [], false⟩, ⟨[0, 1, 2], true, [], [], false⟩, ⟨[0, 1, 2, 3], true, [], [], false⟩] (by decide) ?_
    simp only [sealH, AM.freeze, hput, hget, Blk.ice, List.map_cons, List.map_nil, sealB, sealF, List.mem_cons, dCm, cmC, dWl]
    simp (maxSteps := 2000000) -implicitDefEqProofs only [zz, zE, evop, ev, ofVal, tget, tput, ok, V.isUndef, Ch.on, xport, xports, hget, hput, V.cells, D.cells, V.one, loadD, splice, resOf, resV, resVs, ↓reduceIte, Nat.reduceLT, Nat.reduceEqDiff, Nat.reduceAdd, Nat.reduceLeDiff]
end Go.Proofs.YtjhfpabldidlgaaGreat.AM

set_option linter.all false
set_option maxRecDepth 100000
set_option maxHeartbeats 8000000
namespace Go.Proofs.YtjhfpabldidlgaaGreat.AM
open Go Go.RowKit

def allN : Nat → Cm → Wl → Option (Cm × Wl)
  | 0, _, _ => none
  | n + 1, c, w => if c.phase < 5 then (if mayC c w = true then allN n (stpC c w).1 (stpC c w).2 else none) else some (c, w)
def allC (c : Cm) (w : Wl) : (Cm × Wl) × Int := match allN 6 c w with
  | some z => (z, 0)
  | none => ((c, w), 1)

theorem allN_succ (n : Nat) (c : Cm) (w : Wl) : allN (n + 1) c w = if c.phase < 5 then (if mayC c w = true then allN n (stpC c w).1 (stpC c w).2 else none) else some (c, w) := rfl
theorem stpC_phase (c : Cm) (w : Wl) : ((stpC c w).1.phase = 6 ∨ (stpC c w).1.phase = c.phase + 1) ∧ (stpC c w).1.t = c.t := by
  obtain ⟨k1, k2, k3, k4⟩ := phaseW_t c w
  unfold stpC
  split
  · exact ⟨.inl rfl, k1⟩
  · exact ⟨.inr (by simp only; omega), k1⟩

def bZC : Blk := .box false [.d (.int .i64 0), .d (.int .i64 0), .d (.int .i64 0), .d (.vec []), .d (.vec []), .d (.vec []), .d (.vec []), .d (.vec []), .d (.vec []), .d (.int .i64 0), .d (.int .i64 0), .d (.int .i64 0), .d (.int .i64 0), .d (.int .i64 0)]
def bZW : Blk := .box false [.d (.vec []), .d (.vec []), .d (.int .i64 0)]

theorem c_commit_All (c : Cm) (w : Wl) (ho : CmOk c) : CSpec Tryz.prog 47 [dCm c, dWl w] (.tuple [dCm (allC c w).1.1, dWl (allC c w).1.2, .int .i64 (allC c w).2]) := by
  have hY : allC c w = match allN 6 c w with
    | some z => (z, 0)
    | none => ((c, w), 1) := rfl
  generalize allC c w = y at hY ⊢
  refine CSpec.of_awp envOf_ok hmix Tryz.func47 rfl (fun args w => Tryz.call47 args w) (by simp [Tryz.f47]) ?_
  simp only [Tryz.f47]
  simp (maxSteps := 2000000) -implicitDefEqProofs only [zz, zE, evop, ev, tget, V.isUndef, initT, V.cells, ↓reduceIte]
  unfold dCm cmC dWl
  simp (maxSteps := 2000000) -implicitDefEqProofs only [zz, zE, evop, ev, ofVal, tget, tput, ok, V.isUndef, Ch.on, hput, V.cells, ↓reduceIte, reduceCtorEq, Nat.reduceLT, Nat.reduceEqDiff, Nat.reduceAdd]
  refine wdraw_weak (Weak.sealed (T' := [(2, .d (.imm (dCm c) 0)), (3, .d (.imm (dWl w) 0)), (4, .ptr 2 0 0), (5, .ptr 3 0 0)]) [0, 1] (by simp [tget, sealF, xport, xports, tids, tidss, hget, dCm, cmC, dWl])) [⟨[], false, [7, 8, 13], [], false⟩, ⟨[], false, [7, 8, 12, 13], [0], true⟩, ⟨[], false, [8, 12, 13], [0, 1], false⟩, ⟨[], false, [7, 12, 13], [0, 1, 2], false⟩, ⟨[0, 2, 3], true, [13], [], false⟩, ⟨[0, 1, 2, 3, 4], true, [], [], false⟩] (by decide) ?_
  simp only [sealH, AM.freeze, hput, hget, Blk.ice, List.map_cons, List.map_nil, sealB, sealF, List.mem_cons, dCm, cmC, dWl]
  simp (maxSteps := 2000000) -implicitDefEqProofs only [zz, zE, evop, ev, tget, tput, ok, Ch.on, hget, hput, V.cells, D.cells, V.one, loadD, splice, D.over, ↓reduceIte, Nat.reduceLT, Nat.reduceEqDiff, Nat.reduceAdd, Nat.reduceLeDiff]
  refine wloop_ind (σ := Nat × Cm × Wl) (fun z => z.1) (fun z => [(2, .d (.imm (dCm c) 0)), (3, .d (.imm (dWl w) 0)), (4, .ptr 2 0 0), (5, .ptr 3 0 0), (7, .ptr 6 0 0), (8, .ptr 7 0 0)]) (fun z => [(bC c).ice, (bW w).ice, bZC, bZW, .dead, .dead, bC z.2.1, bW z.2.2]) (fun z => allN 6 c w = allN z.1 z.2.1 z.2.2 ∧ z.2.1.t = c.t ∧ (z.2.1.phase < 5 → z.2.1.phase < 0 ∨ 5 - z.2.1.phase < z.1) ∧ 1 ≤ z.1) (6, c, w) ⟨rfl, rfl, fun _ => by simp only; omega, by simp⟩ ?_ ?_
  · exact Weak.trims 8 rfl (by simp [tget, V.lower, dCm, cmC, dWl]) (by simp [bZC, bZW, bC, bW, Blk.ice, Blk.lower, lowerL, V.lower])
  rintro ⟨n, d, v⟩ ⟨hn, ht, hp, h1⟩
  simp only at hn ht hp h1
  obtain ⟨k, rfl⟩ : ∃ k, n = k + 1 := ⟨n - 1, by omega⟩
  rw [allN_succ k d v] at hn
  by_cases p5 : d.phase < 5
  case neg =>
    rw [if_neg p5] at hn
    rw [hn] at hY
    simp only at hY
    subst hY
    simp (maxSteps := 2000000) -implicitDefEqProofs only [zz, zE, evop, ev, ofVal, tget, tput, ok, V.isUndef, intBin, Ch.on, told, hget, Blk.ice, structAt, Blk.width, ↓reduceIte, reduceCtorEq, Nat.reduceLT, Nat.reduceEqDiff, Nat.reduceAdd, nilTest, bC, bW, bZC, bZW, p5, Blk.ice]
    refine wdraw_weak (Weak.sealed (T' := [(7, .d (.imm (dCm d) 0)), (8, .d (.imm (dWl v) 0)), (4, .ptr 2 0 0), (5, .ptr 3 0 0)]) [6, 7] (by simp [tget, sealF, xport, xports, tids, tidss, hget, dCm, cmC, dWl])) [⟨[], false, [32], [], false⟩, ⟨[], false, [31, 32], [0], true⟩, ⟨[0], true, [32], [], false⟩, ⟨[0, 1, 2], true, [], [], false⟩, ⟨[0, 1, 2, 3], true, [], [], false⟩] (by decide) ?_
    simp only [sealH, AM.freeze, hput, hget, Blk.ice, List.map_cons, List.map_nil, sealB, sealF, List.mem_cons, dCm, cmC, dWl]
    simp (maxSteps := 2000000) -implicitDefEqProofs only [zz, zE, evop, ev, ofVal, tget, tput, ok, V.isUndef, Ch.on, xport, xports, hget, hput, V.cells, D.cells, V.one, loadD, splice, resOf, resV, resVs, ↓reduceIte, Nat.reduceLT, Nat.reduceEqDiff, Nat.reduceAdd, Nat.reduceLeDiff]
  rw [if_pos p5] at hn
  have hst := c_commit_Step d v ⟨by rw [ht]; exact ho.log, by rw [ht]; exact ho.reads⟩
  cases hm : mayC d v with
  | false =>
    rw [hm, if_neg (by decide)] at hn hst
    rw [hn] at hY
    simp only at hY
    subst hY
    generalize cmStep d v = x at hst
    unfold dCm cmC dWl at hst
    simp (maxSteps := 2000000) -implicitDefEqProofs only [zz, zE, evop, ev, ofVal, tget, tput, ok, V.isUndef, intBin, Ch.on, calleeOf, withArgs, told, hget, Blk.ice, structAt, Blk.width, ↓reduceIte, reduceCtorEq, Nat.reduceLT, Nat.reduceEqDiff, Nat.reduceAdd, Nat.reduceLeDiff, nilTest, bC, bW, bZC, bZW, p5, Blk.ice]
    refine acall_ice' (hst) ?_
    try simp (maxSteps := 2000000) -implicitDefEqProofs only [zz, zE, evop, ev, ofVal, tget, tput, ok, V.isUndef, intBin, Ch.on, told, tids, tidss, hget, hput, freeze, V.cells, V.one, splice, ↓reduceIte, Nat.reduceLT, Nat.reduceEqDiff, Nat.reduceAdd, Nat.reduceLeDiff, nilTest]
    refine wdraw_plan [⟨[], false, [27, 28], [], false⟩, ⟨[], false, [26, 27, 28], [0], true⟩, ⟨[], false, [26, 27, 28], [0, 1], true⟩, ⟨[0], true, [27, 28], [], false⟩, ⟨[0, 1, 3], true, [28], [], false⟩, ⟨[0, 1, 2, 3, 4], true, [], [], false⟩] (by decide) ?_
    simp (maxSteps := 2000000) -implicitDefEqProofs only [zz, zE, evop, ev, tget, tput, ok, V.isUndef, Ch.on, xport, xports, hget, hput, V.cells, D.cells, V.one, loadD, splice, resOf, resV, resVs, ↓reduceIte, Nat.reduceLT, Nat.reduceEqDiff, Nat.reduceAdd, Nat.reduceLeDiff, dCm, cmC, dWl]
  | true =>
    have hse : cmStep d v = stpC d v := by unfold cmStep; rw [if_pos hm]
    obtain ⟨q1, q2⟩ := stpC_phase d v
    have hm2 := hm
    simp only [mayC, Bool.and_eq_true, decide_eq_true_eq] at hm2
    rw [hm, if_pos rfl] at hn hst
    rw [hse] at hst
    generalize stpC d v = x at hst hn q1 q2
    unfold dCm cmC dWl at hst
    simp (maxSteps := 2000000) -implicitDefEqProofs only [zz, zE, evop, ev, ofVal, tget, tput, ok, V.isUndef, intBin, Ch.on, calleeOf, withArgs, told, hget, Blk.ice, structAt, Blk.width, ↓reduceIte, reduceCtorEq, Nat.reduceLT, Nat.reduceEqDiff, Nat.reduceAdd, Nat.reduceLeDiff, nilTest, bC, bW, bZC, bZW, p5, Blk.ice]
    refine acall_ice' (hst) ?_
    try simp (maxSteps := 2000000) -implicitDefEqProofs only [zz, zE, evop, ev, ofVal, tget, tput, ok, V.isUndef, intBin, Ch.on, told, tids, tidss, hget, hput, freeze, V.cells, V.one, splice, ↓reduceIte, Nat.reduceLT, Nat.reduceEqDiff, Nat.reduceAdd, Nat.reduceLeDiff, nilTest]
    refine wdraw_weak (Weak.sealed (T' := [(9, .d (.imm (dCm x.1) 0)), (10, .d (.imm (dWl x.2) 0)), (2, .d (.imm (dCm c) 0)), (3, .d (.imm (dWl w) 0)), (4, .ptr 2 0 0), (5, .ptr 3 0 0), (7, .ptr 6 0 0), (8, .ptr 7 0 0)]) [8, 9] (by simp [tget, sealF, xport, xports, tids, tidss, hget, dCm, cmC, dWl])) [⟨[], false, [30], [], false⟩, ⟨[], false, [29, 30], [0], true⟩, ⟨[0], true, [30], [], false⟩, ⟨[0, 1, 2], true, [], [], false⟩] (by decide) ?_
    simp only [sealH, AM.freeze, hput, hget, Blk.ice, List.map_cons, List.map_nil, sealB, sealF, List.mem_cons, dCm, cmC, dWl]
    simp (maxSteps := 2000000) -implicitDefEqProofs only [zz, zE, evop, ev, tget, tput, ok, Ch.on, hget, hput, V.cells, D.cells, V.one, loadD, splice, ↓reduceIte, Nat.reduceLT, Nat.reduceEqDiff, Nat.reduceAdd, Nat.reduceLeDiff]
    refine ⟨(k, x.1, x.2), ⟨hn, by rw [q2, ht], fun g => ?_, ?_⟩, by simp only; omega, ?_⟩
    · have := hp p5
      simp only at g ⊢
      omega
    · have := hp p5
      simp only
      omega
    · exact Weak.trims 8 rfl (by simp [tget, V.lower, dCm, cmC, dWl]) (by simp [bZC, bZW, bC, bW, Blk.ice, Blk.lower, lowerL, V.lower])
end Go.Proofs.YtjhfpabldidlgaaGreat.AM
