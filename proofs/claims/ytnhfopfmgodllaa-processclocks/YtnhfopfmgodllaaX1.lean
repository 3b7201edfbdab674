/-
  A part of the proof: contracts of functions of the program, over the abstract machine.
-/
import Derived.Test.YtnhfopfmgodllaaN4
noncomputable section
namespace Go.Sl
open Go Go.Ab Cd
set_option linter.unusedVariables false
set_option linter.unusedSimpArgs false
set_option maxRecDepth 10000

/-- A slice that is ours, grown or written out. -/
def slX (es : Nat) (v : AV) (n : Nat) (cs : List AV) : As := fun h => slA es v n cs h ∨ ∃ b, v = .slc b 0 n (some n) ∧ cs.length = n * es ∧ pt b (.cells none false cs) h
theorem hp_slX {G : GB} {S : St} {F : As} {H : List As} {es v n cs} (p : Hp G S F (slX es v n cs :: H)) : Hp G S F (slA es v n cs :: H) ∨ ∃ b, v = .slc b 0 n (some n) ∧ cs.length = n * es ∧ Hp G S F (pt b (.cells none false cs) :: H) := by
  obtain ⟨g, h, s, k⟩ := p
  obtain ⟨a, r, dj, rfl, pa, sb⟩ := sat_swap s
  rcases pa with h1 | ⟨b, h1, h2, h3⟩
  · exact .inl ⟨g, _, sat_swap ⟨a, r, dj, rfl, h1, sb⟩, k⟩
  · exact .inr ⟨b, h1, h2, g, _, sat_swap ⟨a, r, dj, rfl, h3, sb⟩, k⟩
theorem HLe.toX {G : GB} {H : List As} {es v n cs} : HLe G (slA es v n cs :: H) (slX es v n cs :: H) := fun S F p => by
  obtain ⟨g, h, s, k⟩ := p
  obtain ⟨a, r, dj, rfl, pa, sb⟩ := sat_swap s
  exact ⟨g, _, sat_swap ⟨a, r, dj, rfl, .inl pa, sb⟩, k⟩
theorem HLe.toX' {G : GB} {H : List As} {es b n cs} (hl : cs.length = n * es) : HLe G (pt b (.cells none false cs) :: H) (slX es (.slc b 0 n (some n)) n cs :: H) := fun S F p => by
  obtain ⟨g, h, s, k⟩ := p
  obtain ⟨a, r, dj, rfl, pa, sb⟩ := sat_swap s
  exact ⟨g, _, sat_swap ⟨a, r, dj, rfl, .inr ⟨b, rfl, hl, pa⟩, sb⟩, k⟩
section
variable {AP : AProg} {G : GB} {E : Env} {H : List As} {Q : AEx → GB → Env → List As → Prop} {K : GB → Env → List As → Prop} {l : List AI} {d : Option Nat}
theorem WpI.orX {H2 : List As} {es u n cs} (t : Take (slX es u n cs) H H2) (k1 : WpI AP G l E (slA es u n cs :: H2) K) (k2 : ∀ b, u = .slc b 0 n (some n) → cs.length = n * es → WpI AP G l E (pt b (.cells none false cs) :: H2) K) : WpI AP G l E H K := fun F S fr p f => by
  rcases hp_slX (hp_take t p) with q | ⟨b, h1, h2, q⟩
  · exact k1 F S fr q f
  · exact k2 b h1 h2 F S fr q f
theorem s_aX {es bytes x y u cs yv ds H2} {n m : Nat} (k : ∀ v', SlForm es v' (n + m) (cs ++ ds) → WpI AP G l (putE E d v') (slX es v' (n + m) (cs ++ ds) :: H2) K) (hx : evE E x = some u := by rfl) (hy : evE E y = some yv := by rfl) (t : Take (slX es u n cs) H H2 := by repeat (first | exact Take.head | apply Take.tail))
    (sr : ∀ P, Src G (P :: H2) es yv m ds := by intro P; first | exact Src.nils | (apply Src.slc; (focus (apply Reads.h; (repeat (first | exact Take.head | apply Take.tail)); done)); rfl) | assumption) (hz : (2 * (n + m) + 1024) * bytes ≤ 2 ^ 48 := by omega) (hz2 : n + m < 2 ^ 62 := by omega)
    (hm : ds.length = m * es := by first | rfl | assumption | (simp; done)) (h0 : 0 < m := by omega) : WpI AP G (⟨d, none, .b (.append es bytes x y)⟩ :: l) E H K := by
  refine WpI.orX t ?_ fun b hu hl => ?_
  · exact wpi_append hx hy .head (sr _) hz hz2 hm fun v' f => WpI.hle HLe.toX (k v' f)
  · subst hu
    refine wpi_append_full hx hy (.slc (.h .head) (by rw [← hl, slice?_all])) (sr _) (by omega) h0 hz hz2 hl hm fun v' => ?_
    refine WpI.fact (fun S F p => slA_form .head p) fun f => ?_
    exact WpI.hle (HLe.trans (HLe.cons (HLe.drop HLe.refl)) HLe.toX) (k v' f)
theorem freezeX_ {S : St} {F : As} {H2 : List As} {es v n cs} (t : Take (slX es v n cs) H H2) (p : Hp G S F H) : ∃ G', GLe G G' ∧ SlR (Gr G') es v n cs ∧ Hp G' S F H2 := by
  rcases hp_slX (hp_take t p) with q | ⟨b, rfl, hl, q⟩
  · exact freezeS_ .head q
  · obtain ⟨q2, le⟩ := hp_freeze q
    exact ⟨_, le, ⟨hl, .inr ⟨b, 0, some n, none, false, cs, rfl, by simp [Gr, putG], by rw [← hl, slice?_all]⟩⟩, q2⟩
theorem Wp.freezeX {c} {H2 : List As} {es v n cs} (t : Take (slX es v n cs) H H2) (k : ∀ G', GLe G G' → SlR (Gr G') es v n cs → Wp AP G' c E H2 Q) : Wp AP G c E H Q := fun F S fr p f => by
  obtain ⟨G', le, r, q⟩ := freezeX_ t p
  obtain ⟨n, e, fr', S', h1, G2, E', H', h2, h3, h4, h5⟩ := k G' le r F S fr q f
  exact ⟨n, e, fr', S', h1, G2, E', H', h2, h3, h4, le.trans h5⟩
theorem WpI.freezeX {H2 : List As} {es v n cs} (t : Take (slX es v n cs) H H2) (k : ∀ G', GLe G G' → SlR (Gr G') es v n cs → WpI AP G' l E H2 K) : WpI AP G l E H K := fun F S fr p f => by
  obtain ⟨G', le, r, q⟩ := freezeX_ t p
  obtain ⟨n, fr', S', h1, G2, E', H', h2, h3, h4, h5⟩ := k G' le r F S fr q f
  exact ⟨n, fr', S', h1, G2, E', H', h2, h3, h4, le.trans h5⟩
end

/-! ### Sorted lists are unique -/
theorem cmpL_lt (a b : Lane) : cmpL a b < 0 ↔ a.src < b.src ∨ (a.src = b.src ∧ (a.dst < b.dst ∨ (a.dst = b.dst ∧ a.ahead < b.ahead))) := by
  unfold cmpL cmpI
  constructor
  · intro h
    (repeat' split at h) <;> omega
  · intro h
    rcases h with h | ⟨h1, h | ⟨h2, h⟩⟩
    · simp [h]
    · simp [h1, h]
    · simp [h1, h2, h]
theorem le_refl' (a : Lane) : le a a := by
  unfold le; rw [cmpL_lt]; omega
theorem le_trans' {a b c : Lane} (h : le a b) (k : le b c) : le a c := by
  unfold le at *; rw [cmpL_lt] at *; omega
theorem le_antisymm' {a b : Lane} (h : le a b) (k : le b a) : a = b := by
  unfold le at *; rw [cmpL_lt] at *
  have e : a.src = b.src ∧ a.dst = b.dst ∧ a.ahead = b.ahead := by omega
  cases a; cases b; simp at e; simp [e]
theorem Sorted.pair {xs : List Lane} (h : Sorted 0 xs.length xs) : xs.Pairwise le := by
  rw [List.pairwise_iff_getElem]
  have main : ∀ d i j (hi : i < xs.length) (hj : j < xs.length), j = i + d → le xs[i] xs[j] := by
    intro d
    induction d with
    | zero => intro i j hi hj e; subst e; exact le_refl' _
    | succ d ih =>
      intro i j hi hj e
      have h1 := ih i (i + d) hi (by omega) rfl
      have h2 := h j (by omega) hj
      rw [getD_lt (by omega), getD_lt hj] at h2
      have e2 : j - 1 = i + d := by omega
      simp only [e2] at h2
      exact le_trans' h1 h2
  intro i j hi hj hlt
  exact main (j - i) i j hi hj (by omega)
theorem sorted_unique {xs ys : List Lane} (h : xs.Perm ys) (h1 : Sorted 0 xs.length xs) (h2 : Sorted 0 ys.length ys) : xs = ys :=
  List.Perm.eq_of_pairwise (fun _ _ _ _ => le_antisymm') h1.pair h2.pair h
theorem LanesR.unique {raw L L' : List Lane} (h : LanesR raw L) (k : LanesR raw L') : L = L' := by
  obtain ⟨ys, h1, h2, rfl⟩ := h
  obtain ⟨zs, k1, k2, rfl⟩ := k
  rw [sorted_unique (h1.trans k1.symm) h2 k2]

