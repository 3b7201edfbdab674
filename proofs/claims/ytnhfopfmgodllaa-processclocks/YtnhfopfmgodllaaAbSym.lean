/-
  NUMBERS WITH UNKNOWNS: what is told of them holds whatever the unknowns are between their bounds.
-/
import Derived.Test.YtnhfopfmgodllaaAbMem
namespace Go.Ab
open Go
set_option linter.unusedSectionVars false
variable [Inhabited Unknowns]

theorem insT_ev (v : Nat) (a lo hi : Int) : ∀ (ts : List Tm), okT ((v, a, lo, hi) :: ts) → evT (insT v a lo hi ts) = a * (default : Unknowns).is v + evT ts ∧ okT (insT v a lo hi ts)
  | [], h => ⟨rfl, h⟩
  | (w, b, lo', hi') :: r, h => by
    obtain ⟨h1, h2, h3, h4, h5⟩ := h
    unfold insT
    split
    · rename_i e; subst e
      split
      · rename_i e; refine ⟨?_, h5⟩
        have : a * (default : Unknowns).is v + b * (default : Unknowns).is v = 0 := by rw [← Int.add_mul, e, Int.zero_mul]
        simp only [evT]; omega
      · refine ⟨?_, h1, h2, h5⟩
        simp only [evT]; rw [Int.add_mul]; omega
    · split
      · exact ⟨rfl, h1, h2, h3, h4, h5⟩
      · obtain ⟨k1, k2⟩ := insT_ev v a lo hi r ⟨h1, h2, h5⟩
        refine ⟨?_, h3, h4, k2⟩
        simp only [evT, k1]; omega
theorem addT_ev : ∀ (s t : List Tm), okT s → okT t → evT (addT s t) = evT s + evT t ∧ okT (addT s t)
  | [], t, _, ht => ⟨by simp [addT, evT], ht⟩
  | (v, a, lo, hi) :: r, t, hs, ht => by
    obtain ⟨h1, h2, h3⟩ := hs
    obtain ⟨k1, k2⟩ := addT_ev r t h3 ht
    obtain ⟨g1, g2⟩ := insT_ev v a lo hi (addT r t) ⟨h1, h2, k2⟩
    refine ⟨?_, g2⟩
    simp only [addT, g1, k1, evT]; omega
theorem mulT_ev (m : Int) : ∀ (s : List Tm), okT s → evT (mulT m s) = m * evT s ∧ okT (mulT m s)
  | [], _ => ⟨by simp [mulT, evT], trivial⟩
  | (v, a, lo, hi) :: r, ⟨h1, h2, h3⟩ => by
    obtain ⟨k1, k2⟩ := mulT_ev m r h3
    refine ⟨?_, h1, h2, k2⟩
    simp only [mulT, evT, k1, Int.mul_add, Int.mul_assoc]
theorem lohi : ∀ (s : List Tm), okT s → loT s ≤ evT s ∧ evT s ≤ hiT s
  | [], _ => ⟨Int.le_refl _, Int.le_refl _⟩
  | (v, a, lo, hi) :: r, ⟨h1, h2, h3⟩ => by
    obtain ⟨k1, k2⟩ := lohi r h3
    simp only [loT, hiT, evT]
    by_cases ha : 0 ≤ a
    · have p := Int.mul_le_mul_of_nonneg_left h1 ha
      have q := Int.mul_le_mul_of_nonneg_left h2 ha
      rw [if_pos ha, if_pos ha]; omega
    · have p := Int.mul_le_mul_of_nonpos_left (a := a) (by omega) h1
      have q := Int.mul_le_mul_of_nonpos_left (a := a) (by omega) h2
      rw [if_neg ha, if_neg ha]; omega

theorem sub_ev {ts us : List Tm} (h : okT ts) (k : okT us) : evT (addT ts (mulT (-1) us)) = evT ts - evT us ∧ okT (addT ts (mulT (-1) us)) := by
  obtain ⟨m1, m2⟩ := mulT_ev (-1) us k
  obtain ⟨a1, a2⟩ := addT_ev ts _ h m2
  exact ⟨by rw [a1, m1]; omega, a2⟩

theorem negS_ev {c : Int} {ts : List Tm} {b : Bool} (h : okT ts) (e : negS c ts = some b) : b = decide (c + evT ts < 0) := by
  obtain ⟨l1, l2⟩ := lohi ts h
  unfold negS at e
  split at e
  · cases e; symm; simp; omega
  · split at e
    · cases e; symm; simp; omega
    · cases e
theorem zeroS_ev {c : Int} {ts : List Tm} {b : Bool} (h : okT ts) (e : zeroS c ts = some b) : b = decide (c + evT ts = 0) := by
  obtain ⟨l1, l2⟩ := lohi ts h
  unfold zeroS at e
  split at e
  · cases e; symm; simp; omega
  · split at e
    · cases e; symm; simp; omega
    · split at e
      · cases e
        simp only [evT, Int.add_zero]
        by_cases hc : c = 0 <;> simp [hc]
      · cases e

theorem inK_between {k : IntKind} {a b n : Int} (ha : inK k a = true) (hb : inK k b = true) (h1 : a ≤ n) (h2 : n ≤ b) : inK k n = true := by
  cases k <;> simp only [inK] at ha hb ⊢ <;> first
    | (split at ha <;> (try (cases ha; done)) <;> split at hb <;> (try (cases hb; done)) <;> (try simp only [Nat.ble_eq] at ha hb) <;> cases n <;> simp_all <;> omega)
    | (cases a <;> cases b <;> cases n <;> simp_all <;> omega)

theorem fitS_ev {k : IntKind} {c : Int} {ts : List Tm} {r : AV} (h : okT ts) (e : fitS k c ts = some r) : r = mkS k c ts ∧ wr k (c + evT ts) = c + evT ts := by
  obtain ⟨l1, l2⟩ := lohi ts h
  unfold fitS at e
  split at e
  · rename_i hf
    simp only [Bool.and_eq_true] at hf
    cases e
    refine ⟨rfl, ?_⟩
    have := inK_between (n := c + evT ts) hf.1 hf.2 (by omega) (by omega)
    simp [wr, this]
  · cases e

theorem mkS_vr {μ : Mu} {k : IntKind} {c : Int} {ts : List Tm} (h : okT ts) : VR μ (mkS k c ts) (.int k (c + evT ts)) := by
  cases ts with
  | nil => simp only [mkS, evT, Int.add_zero]; exact .int _ _
  | cons t r => exact .sym h

theorem symOf_vr {v : AV} {k : IntKind} {c : Int} {ts : List Tm} (e : symOf v = some (k, c, ts)) {μ : Mu} {u : Value} (h : VR μ v u) : okT ts ∧ u = .int k (c + evT ts) := by
  unfold symOf at e
  split at e
  · cases e; cases h; exact ⟨trivial, by simp [evT]⟩
  · cases e; cases h; exact ⟨‹_›, rfl⟩
  · cases e

theorem symBin_ev {op : BinOp} {k : IntKind} {c d : Int} {ts us : List Tm} {r : AV} (e : symBin op k c ts d us = some r) (h : okT ts) (g : okT us) :
    ∃ r', intBin op k (c + evT ts) (d + evT us) = some r' ∧ ∀ μ u, VR μ r' u → VR μ r u := by
  have sub := sub_ev h g
  have sub' := sub_ev g h
  have fin : ∀ (n x : Int) (ts : List Tm) (r : AV), okT ts → fitS k x ts = some r → n = x + evT ts → ∀ μ u, VR μ (.int k (wr k n)) u → VR μ r u := fun n x ts r hts hf hn μ u hv => by
    obtain ⟨f1, f2⟩ := fitS_ev hts hf
    rw [hn, f2] at hv
    cases hv
    rw [f1]; exact mkS_vr hts
  unfold symBin at e
  split at e
  · obtain ⟨a1, a2⟩ := addT_ev ts us h g
    exact ⟨_, rfl, fin _ _ _ _ a2 e (by omega)⟩
  · exact ⟨_, rfl, fin _ _ _ _ sub.2 e (by omega)⟩
  · split at e
    · obtain ⟨a1, a2⟩ := mulT_ev d ts h
      refine ⟨_, rfl, fin _ _ _ _ a2 e ?_⟩
      rw [a1]; simp only [evT, Int.add_zero, Int.add_mul]; rw [Int.mul_comm (evT ts) d]
    · cases e
  · split at e <;> (try (cases e; done))
    rename_i b hb
    cases e
    have := negS_ev sub.2 hb
    refine ⟨_, rfl, fun μ u hv => ?_⟩
    rw [this]
    rw [show decide (c - d + evT (addT ts (mulT (-1) us)) < 0) = decide (c + evT ts < d + evT us) from decide_eq_decide.2 (by omega)]; exact hv
  · split at e <;> (try (cases e; done))
    rename_i b hb
    cases e
    have := negS_ev sub'.2 hb
    refine ⟨_, rfl, fun μ u hv => ?_⟩
    rw [this]
    rw [show decide (d - c + evT (addT us (mulT (-1) ts)) < 0) = decide (c + evT ts > d + evT us) from decide_eq_decide.2 (by omega)]; exact hv
  · split at e <;> (try (cases e; done))
    rename_i b hb
    cases e
    have := negS_ev sub'.2 hb
    refine ⟨_, rfl, fun μ u hv => ?_⟩
    rw [this]
    rw [show (!decide (d - c + evT (addT us (mulT (-1) ts)) < 0)) = decide (c + evT ts ≤ d + evT us) from by rw [← decide_not]; exact decide_eq_decide.2 (by omega)]; exact hv
  · split at e <;> (try (cases e; done))
    rename_i b hb
    cases e
    have := negS_ev sub.2 hb
    refine ⟨_, rfl, fun μ u hv => ?_⟩
    rw [this]
    rw [show (!decide (c - d + evT (addT ts (mulT (-1) us)) < 0)) = decide (c + evT ts ≥ d + evT us) from by rw [← decide_not]; exact decide_eq_decide.2 (by omega)]; exact hv
  · split at e <;> (try (cases e; done))
    rename_i b hb
    cases e
    have := zeroS_ev sub.2 hb
    refine ⟨_, rfl, fun μ u hv => ?_⟩
    rw [this]
    rw [show decide (c - d + evT (addT ts (mulT (-1) us)) = 0) = (c + evT ts == d + evT us) from by rw [Bool.eq_iff_iff]; simp; omega]; exact hv
  · split at e <;> (try (cases e; done))
    rename_i b hb
    cases e
    have := zeroS_ev sub.2 hb
    refine ⟨_, rfl, fun μ u hv => ?_⟩
    rw [this]
    rw [show (!decide (c - d + evT (addT ts (mulT (-1) us)) = 0)) = (c + evT ts != d + evT us) from by rw [Bool.eq_iff_iff]; simp; omega]; exact hv
  · cases e
end Go.Ab
