/-
  A LOGIC FOR THE ABSTRACT MACHINE: assertions over its heap, what code comes to, rules for each operation.
-/
import Derived.Test.YtnhfopfmgodllaaAbTop
noncomputable section
namespace Go.Sl
open Go Go.Ab
set_option linter.unusedSectionVars false
set_option linter.unusedVariables false

/-! ### More fuel -/
theorem runIs_mono {ms : List (Nat × Nat × Nat)} {c c' : Nat → List AV → St → Option (AV × St)} (h : ∀ f vs S r, c f vs S = some r → c' f vs S = some r) : ∀ (l : List AI) (fr : Fr) (S : St) (r : Fr × St), runIs ms c l fr S = some r → runIs ms c' l fr S = some r
  | [], fr, S, r, e => e
  | i :: l, fr, S, r, e => by
    have ih := runIs_mono (ms := ms) h l
    have hI : ∀ op fr S r, runI ms c op fr S = some r → runI ms c' op fr S = some r := by
      intro op fr S r e
      cases op <;> try exact e
      · simp only [runI] at e ⊢
        split at e <;> (try (cases e; done))
        exact h _ _ _ _ e
      · simp only [runI] at e ⊢
        split at e <;> (try (cases e; done))
        exact h _ _ _ _ e
      · simp only [runI] at e ⊢
        split at e <;> (try (cases e; done))
        split at e <;> (try (cases e; done))
        exact h _ _ _ _ e
    have hG : ∀ fr S r, runG ms c i (runIs ms c l) fr S = some r → runG ms c' i (runIs ms c' l) fr S = some r := by
      intro fr S r e
      unfold runG at e ⊢
      split at e <;> (try (cases e; done))
      rename_i v S' hv
      rw [hI _ _ _ _ hv]
      exact ih _ _ _ e
    have e' : runOne ms c i (runIs ms c l) fr S = some r := e
    show runOne ms c' i (runIs ms c' l) fr S = some r
    unfold runOne at e' ⊢
    split at e'
    · exact hG _ _ _ e'
    · split at e'
      · split at e'
        · exact hG _ _ _ e'
        · exact ih _ _ _ e'
      · exact ih _ _ _ e'
      · cases e'

theorem callWith_mono {AP : AProg} {ex ex' : ACode → Fr → St → Option (AEx × Fr × St)} (h : ∀ c fr S r, ex c fr S = some r → ex' c fr S = some r) (f : Nat) (vs : List AV) (S : St) (r : AV × St) (e : callWith AP ex f vs S = some r) : callWith AP ex' f vs S = some r := by
  unfold callWith at e ⊢
  split at e
  · exact e
  · split at e <;> (try (cases e; done))
    unfold callFn at e ⊢
    split at e <;> (try (cases e; done))
    split at e
    · cases e
    · rename_i a fr' S' hne hx
      rw [h _ _ _ _ hx]
      cases a <;> first | exact e | exact absurd rfl (hne _)
    · cases e

theorem exec_succ (AP : AProg) : ∀ n c fr S r, exec AP n c fr S = some r → exec AP (n + 1) c fr S = some r
  | 0, c, fr, S, r, e => by cases e
  | n + 1, c, fr, S, r, e => by
    have ih := exec_succ AP n
    have e' : execStep AP (exec AP n) c fr S = some r := e
    show execStep AP (exec AP (n + 1)) c fr S = some r
    cases c with
    | skip => exact e'
    | exit id => exact e'
    | ret => exact e'
    | bad w => exact e'
    | ops o l =>
      simp only [execStep] at e' ⊢
      split at e' <;> (try (cases e'; done))
      rename_i fr' S' h
      rw [runIs_mono (fun f vs S r => callWith_mono ih f vs S r) _ _ _ _ h]
      exact e'
    | seq a b =>
      simp only [execStep] at e' ⊢
      split at e'
      · rename_i h; rw [ih _ _ _ _ h]; exact ih _ _ _ _ e'
      · rename_i hne
        rw [ih _ _ _ _ e']
        obtain ⟨x, fr', S'⟩ := r
        cases x <;> first | rfl | exact absurd e' (hne _ _)
    | cond x a b =>
      simp only [execStep] at e' ⊢
      split at e'
      · exact ih _ _ _ _ e'
      · exact ih _ _ _ _ e'
      · cases e'
    | block id c =>
      simp only [execStep] at e' ⊢
      split at e'
      · rename_i h; rw [ih _ _ _ _ h]; exact e'
      · rename_i hne
        rw [ih _ _ _ _ e']
        obtain ⟨x, fr', S'⟩ := r
        cases x <;> first | rfl | exact absurd e' (hne _ _ _)
    | loop c =>
      simp only [execStep] at e' ⊢
      split at e'
      · rename_i h; rw [ih _ _ _ _ h]; exact ih _ _ _ _ e'
      · rename_i hne
        rw [ih _ _ _ _ e']
        obtain ⟨x, fr', S'⟩ := r
        cases x <;> first | rfl | exact absurd e' (hne _ _)
theorem exec_mono {AP : AProg} {n m : Nat} (h : n ≤ m) {c fr S r} (e : exec AP n c fr S = some r) : exec AP m c fr S = some r := by
  induction h with
  | refl => exact e
  | step _ ih => exact exec_succ AP _ _ _ _ _ ih
theorem callA_mono {AP : AProg} {n m : Nat} (h : n ≤ m) {f vs S r} (e : callA AP n f vs S = some r) : callA AP m f vs S = some r :=
  callWith_mono (fun _ _ _ _ e => exec_mono h e) _ _ _ _ e

/-! ### Assertions -/
abbrev PH := Nat → Option AObj
abbrev As := PH → Prop
def Dj (a b : PH) : Prop := ∀ k, a k = none ∨ b k = none
def Un (a b : PH) : PH := fun k => match a k with | some o => some o | none => b k
def E0 : PH := fun _ => none
def sat : List As → As
  | [], h => h = E0
  | P :: H, h => ∃ a b, Dj a b ∧ h = Un a b ∧ P a ∧ sat H b
/-- A block. -/
def pt (b : Nat) (o : AObj) : As := fun h => h = fun k => if k = b then some o else none
def star (L : List As) : As := sat L
def exA {α : Sort _} (P : α → As) : As := fun h => ∃ x, P x h
def pureA (p : Prop) : As := fun h => p ∧ h = E0

theorem Un_E0 (a : PH) : Un a E0 = a := by funext k; unfold Un E0; cases a k <;> rfl
theorem E0_Un (a : PH) : Un E0 a = a := rfl
theorem Dj.symm {a b : PH} (h : Dj a b) : Dj b a := fun k => (h k).symm
theorem Un_comm {a b : PH} (h : Dj a b) : Un a b = Un b a := by
  funext k; unfold Un
  rcases h k with e | e <;> rw [e] <;> (first | (cases b k <;> rfl) | (cases a k <;> rfl))
theorem Un_assoc (a b c : PH) : Un (Un a b) c = Un a (Un b c) := by
  funext k; unfold Un; cases a k <;> rfl
theorem Dj_Un_left {a b c : PH} : Dj (Un a b) c ↔ Dj a c ∧ Dj b c := by
  constructor
  · intro h
    refine ⟨fun k => ?_, fun k => ?_⟩
    · rcases h k with e | e
      · unfold Un at e; cases ha : a k with
        | none => exact .inl rfl
        | some o => rw [ha] at e; cases e
      · exact .inr e
    · rcases h k with e | e
      · unfold Un at e; cases ha : a k with
        | none => rw [ha] at e; exact .inl e
        | some o => rw [ha] at e; cases e
      · exact .inr e
  · rintro ⟨h1, h2⟩ k
    rcases h1 k with e | e
    · rcases h2 k with e' | e'
      · left; unfold Un; rw [e]; exact e'
      · exact .inr e'
    · exact .inr e
theorem Dj_Un_right {a b c : PH} : Dj a (Un b c) ↔ Dj a b ∧ Dj a c :=
  ⟨fun h => ⟨(Dj_Un_left.1 h.symm).1.symm, (Dj_Un_left.1 h.symm).2.symm⟩, fun h => (Dj_Un_left.2 ⟨h.1.symm, h.2.symm⟩).symm⟩
theorem Dj_E0 (a : PH) : Dj a E0 := fun _ => .inr rfl
theorem E0_Dj (a : PH) : Dj E0 a := fun _ => .inl rfl

inductive Take {α : Type _} (P : α) : List α → List α → Prop where
  | head {H} : Take P (P :: H) H
  | tail {Q H H2} (h : Take P H H2) : Take P (Q :: H) (Q :: H2)

theorem sat_swap {P Q : As} {H : List As} {h : PH} (s : sat (P :: Q :: H) h) : sat (Q :: P :: H) h := by
  obtain ⟨a, bc, d1, rfl, pa, b, c, d2, rfl, qb, sc⟩ := s
  obtain ⟨d3, d4⟩ := Dj_Un_right.1 d1
  refine ⟨b, Un a c, Dj_Un_right.2 ⟨d3.symm, d2⟩, ?_, qb, a, c, d4, rfl, pa, sc⟩
  rw [← Un_assoc, ← Un_assoc, Un_comm d3]
theorem sat_cons_mono {P : As} {H H' : List As} (m : ∀ h, sat H h → sat H' h) {h : PH} (s : sat (P :: H) h) : sat (P :: H') h := by
  obtain ⟨a, b, d, rfl, pa, sb⟩ := s
  exact ⟨a, b, d, rfl, pa, m _ sb⟩
theorem sat_take {P : As} : ∀ {H H2 : List As}, Take P H H2 → ∀ h, sat H h → sat (P :: H2) h
  | _, _, .head, h, s => s
  | _, _, .tail t, h, s => sat_swap (sat_cons_mono (sat_take t) s)
theorem sat_untake {P : As} : ∀ {H H2 : List As}, Take P H H2 → ∀ h, sat (P :: H2) h → sat H h
  | _, _, .head, h, s => s
  | _, _, .tail t, h, s => sat_cons_mono (sat_untake t) (sat_swap s)
theorem sat_append {H1 H2 : List As} : ∀ {h : PH}, sat (H1 ++ H2) h ↔ ∃ a b, Dj a b ∧ h = Un a b ∧ sat H1 a ∧ sat H2 b := by
  induction H1 with
  | nil => intro h; exact ⟨fun s => ⟨E0, h, E0_Dj _, rfl, rfl, s⟩, fun ⟨a, b, d, e, s1, s2⟩ => by cases s1; rw [e]; exact s2⟩
  | cons P H1 ih =>
    intro h
    constructor
    · rintro ⟨a, bc, d, rfl, pa, s⟩
      obtain ⟨b, c, d2, rfl, s1, s2⟩ := ih.1 s
      obtain ⟨d3, d4⟩ := Dj_Un_right.1 d
      exact ⟨Un a b, c, Dj_Un_left.2 ⟨d4, d2⟩, (Un_assoc _ _ _).symm, ⟨a, b, d3, rfl, pa, s1⟩, s2⟩
    · rintro ⟨ab, c, d, rfl, ⟨a, b, d3, rfl, pa, s1⟩, s2⟩
      obtain ⟨d4, d2⟩ := Dj_Un_left.1 d
      exact ⟨a, Un b c, Dj_Un_right.2 ⟨d3, d4⟩, Un_assoc _ _ _, pa, ih.2 ⟨b, c, d2, rfl, s1, s2⟩⟩

/-! ### A state and what is known of it -/
abbrev GB := Nat → Option AObj
def GLe (G G' : GB) : Prop := ∀ b o, G b = some o → G' b = some o
theorem GLe.refl (G : GB) : GLe G G := fun _ _ h => h
theorem GLe.trans {G G' G'' : GB} (h : GLe G G') (k : GLe G' G'') : GLe G G'' := fun b o e => k b o (h b o e)
def putG (G : GB) (b : Nat) (o : AObj) : GB := fun k => if k = b then some o else G k

/-- 'G' reads as it does for good; 'F' is somebody else's; 'H' is ours. -/
def Hp (G : GB) (S : St) (F : As) (H : List As) : Prop :=
  (∀ b o, G b = some o → S.heap.get b = some o ∧ b < S.next) ∧ ∃ h, sat (F :: H) h ∧ ∀ b o, h b = some o → S.heap.get b = some o ∧ b < S.next ∧ G b = none

theorem hp_map {G : GB} {S : St} {F F' : As} {H H' : List As} (m : ∀ h, sat (F :: H) h → sat (F' :: H') h) (p : Hp G S F H) : Hp G S F' H' := by
  obtain ⟨g, h, s, k⟩ := p
  exact ⟨g, h, m h s, k⟩
theorem hp_take {G : GB} {S : St} {F P : As} {H H2 : List As} (t : Take P H H2) (p : Hp G S F H) : Hp G S F (P :: H2) := hp_map (fun _ => sat_cons_mono (sat_take t)) p
theorem hp_drop {G : GB} {S : St} {F P : As} {H : List As} (p : Hp G S F (P :: H)) : Hp G S F H := by
  obtain ⟨g, h, s, k⟩ := p
  obtain ⟨a, b, d, rfl, pa, sb⟩ := sat_swap s
  refine ⟨g, b, sb, fun x o e => k x o ?_⟩
  rcases d x with e' | e'
  · unfold Un; rw [e']; exact e
  · rw [e'] at e; cases e
theorem hp_get {G : GB} {S : St} {F : As} {H : List As} {b : Nat} {o : AObj} (p : Hp G S F (pt b o :: H)) : S.heap.get b = some o ∧ b < S.next ∧ G b = none := by
  obtain ⟨g, h, s, k⟩ := p
  obtain ⟨a, b', d, rfl, pa, sb⟩ := sat_swap s
  refine k b o ?_
  unfold Un; rw [pa]; simp
theorem hp_put {G : GB} {S : St} {F : As} {H : List As} {b : Nat} {o o' : AObj} (p : Hp G S F (pt b o :: H)) : Hp G ⟨S.next, S.heap.put b (some o')⟩ F (pt b o' :: H) := by
  obtain ⟨hb, hl, hn⟩ := hp_get p
  obtain ⟨g, h, s, k⟩ := p
  obtain ⟨a, r, d, rfl, pa, sb⟩ := sat_swap s
  refine ⟨fun x y e => ?_, _, sat_swap ⟨(fun z => if z = b then some o' else none), r, ?_, rfl, rfl, sb⟩, fun x y e => ?_⟩
  · have hx : x ≠ b := fun e' => by subst e'; rw [hn] at e; cases e
    simp only [Tr.get_put, hx, if_false]; exact g x y e
  · intro z
    by_cases hz : z = b
    · subst hz
      rcases d z with e | e
      · rw [pa] at e; simp at e
      · exact .inr e
    · left; simp [hz]
  · by_cases hx : x = b
    · subst hx
      simp only [Un, if_true] at e
      cases e
      exact ⟨by simp [Tr.get_put], hl, hn⟩
    · simp only [Un, hx, if_false] at e
      simp only [Tr.get_put, hx, if_false]
      refine k x y ?_
      unfold Un; rw [pa]; simp only [hx, if_false]; exact e
theorem hp_del {G : GB} {S : St} {F : As} {H : List As} {b : Nat} {o : AObj} (p : Hp G S F (pt b o :: H)) : Hp G ⟨S.next, S.heap.put b none⟩ F H := by
  obtain ⟨hb, hl, hn⟩ := hp_get p
  obtain ⟨g, h, s, k⟩ := p
  obtain ⟨a, r, d, rfl, pa, sb⟩ := sat_swap s
  refine ⟨fun x y e => ?_, r, sb, fun x y e => ?_⟩
  · have hx : x ≠ b := fun e' => by subst e'; rw [hn] at e; cases e
    simp only [Tr.get_put, hx, if_false]; exact g x y e
  · have hx : x ≠ b := fun e' => by
      subst e'
      rcases d x with e2 | e2
      · rw [pa] at e2; simp at e2
      · rw [e2] at e; cases e
    simp only [Tr.get_put, hx, if_false]
    refine k x y ?_
    unfold Un; rw [pa]; simp only [hx, if_false]; exact e
theorem hp_new {G : GB} {S : St} {F : As} {H : List As} (o : AObj) (p : Hp G S F H) : Hp G (new S o) F (pt S.next o :: H) := by
  obtain ⟨g, h, s, k⟩ := p
  refine ⟨fun x y e => ?_, _, sat_swap ⟨(fun z => if z = S.next then some o else none), h, ?_, rfl, rfl, s⟩, fun x y e => ?_⟩
  · obtain ⟨g1, g2⟩ := g x y e
    have hx : x ≠ S.next := by omega
    exact ⟨by simp only [new, Tr.get_put, hx, if_false]; exact g1, by simp only [new]; omega⟩
  · intro z
    by_cases hz : z = S.next
    · right
      cases hh : h z with
      | none => rfl
      | some y => have := (k z y hh).2.1; omega
    · left; simp [hz]
  · by_cases hx : x = S.next
    · subst hx
      simp only [Un, if_true] at e
      cases e
      refine ⟨by simp [new, Tr.get_put], by simp [new], ?_⟩
      cases hg : G S.next with
      | none => rfl
      | some y => have := (g _ _ hg).2; omega
    · simp only [Un, hx, if_false] at e
      obtain ⟨k1, k2, k3⟩ := k x y e
      exact ⟨by simp only [new, Tr.get_put, hx, if_false]; exact k1, by simp only [new]; omega, k3⟩
theorem hp_freeze {G : GB} {S : St} {F : As} {H : List As} {b : Nat} {o : AObj} (p : Hp G S F (pt b o :: H)) : Hp (putG G b o) S F H ∧ GLe G (putG G b o) := by
  obtain ⟨hb, hl, hn⟩ := hp_get p
  obtain ⟨g, h, s, k⟩ := p
  obtain ⟨a, r, d, rfl, pa, sb⟩ := sat_swap s
  refine ⟨⟨fun x y e => ?_, r, sb, fun x y e => ?_⟩, fun x y e => ?_⟩
  · unfold putG at e
    split at e
    · rename_i hx; subst hx; cases e; exact ⟨hb, hl⟩
    · exact g x y e
  · have hx : x ≠ b := fun e' => by
      subst e'
      rcases d x with e2 | e2
      · rw [pa] at e2; simp at e2
      · rw [e2] at e; cases e
    have : Un a r x = some y := by unfold Un; rw [pa]; simp only [hx, if_false]; exact e
    obtain ⟨k1, k2, k3⟩ := k x y this
    exact ⟨k1, k2, by simp only [putG, hx, if_false]; exact k3⟩
  · unfold putG; split
    · rename_i hx; subst hx; rw [hn] at e; cases e
    · exact e
theorem hp_frame {G : GB} {S : St} {F : As} {H1 H2 : List As} (p : Hp G S F (H1 ++ H2)) : Hp G S (star (F :: H2)) H1 := by
  refine hp_map (fun h s => ?_) p
  obtain ⟨a, b, d, rfl, fa, sb⟩ := s
  obtain ⟨c, e, d2, rfl, s1, s2⟩ := sat_append.1 sb
  obtain ⟨d3, d4⟩ := Dj_Un_right.1 d
  refine ⟨Un a e, c, Dj_Un_left.2 ⟨d3, d2.symm⟩, ?_, ⟨a, e, d4, rfl, fa, s2⟩, s1⟩
  rw [Un_assoc, Un_comm d2.symm]
theorem hp_unframe {G : GB} {S : St} {F : As} {H1 H2 : List As} (p : Hp G S (star (F :: H2)) H1) : Hp G S F (H1 ++ H2) := by
  refine hp_map (fun h s => ?_) p
  obtain ⟨ae, c, d, rfl, ⟨a, e, d4, rfl, fa, s2⟩, s1⟩ := s
  obtain ⟨d3, d2⟩ := Dj_Un_left.1 d
  refine ⟨a, Un c e, Dj_Un_right.2 ⟨d3, d4⟩, ?_, fa, sat_append.2 ⟨c, e, d2.symm, rfl, s1, s2⟩⟩
  rw [Un_assoc, Un_comm d2]
theorem hp_ex {α : Sort _} {G : GB} {S : St} {F : As} {P : α → As} {H : List As} (p : Hp G S F (exA P :: H)) : ∃ x, Hp G S F (P x :: H) := by
  obtain ⟨g, h, s, k⟩ := p
  obtain ⟨a, b, d, rfl, ⟨x, pa⟩, sb⟩ := sat_swap s
  exact ⟨x, g, _, sat_swap ⟨a, b, d, rfl, pa, sb⟩, k⟩
theorem hp_exI {α : Sort _} {G : GB} {S : St} {F : As} {P : α → As} {H : List As} (x : α) (p : Hp G S F (P x :: H)) : Hp G S F (exA P :: H) :=
  hp_map (fun h s => by obtain ⟨a, b, d, rfl, pa, sb⟩ := sat_swap s; exact sat_swap ⟨a, b, d, rfl, ⟨x, pa⟩, sb⟩) p
theorem hp_star {G : GB} {S : St} {F : As} {L H : List As} (p : Hp G S F (star L :: H)) : Hp G S F (L ++ H) :=
  hp_map (fun h s => by
    obtain ⟨a, b, d, rfl, pa, c, e, d2, rfl, sl, sh⟩ := s
    exact ⟨a, _, d, rfl, pa, sat_append.2 ⟨c, e, d2, rfl, sl, sh⟩⟩) p
theorem hp_starI {G : GB} {S : St} {F : As} {L H : List As} (p : Hp G S F (L ++ H)) : Hp G S F (star L :: H) :=
  hp_map (fun h s => by
    obtain ⟨a, b, d, rfl, pa, s2⟩ := s
    obtain ⟨c, e, d2, rfl, sl, sh⟩ := sat_append.1 s2
    exact ⟨a, _, d, rfl, pa, c, e, d2, rfl, sl, sh⟩) p
theorem hp_pure {G : GB} {S : St} {F : As} {q : Prop} {H : List As} (p : Hp G S F (pureA q :: H)) : q ∧ Hp G S F H := by
  refine ⟨?_, hp_drop p⟩
  obtain ⟨g, h, s, k⟩ := p
  obtain ⟨a, b, d, rfl, ⟨x, _⟩, sb⟩ := sat_swap s
  exact x
theorem hp_pureI {G : GB} {S : St} {F : As} {q : Prop} {H : List As} (hq : q) (p : Hp G S F H) : Hp G S F (pureA q :: H) := by
  obtain ⟨g, h, s, k⟩ := p
  exact ⟨g, h, sat_swap ⟨E0, h, E0_Dj _, rfl, ⟨hq, rfl⟩, s⟩, k⟩
/-- Of what is ours a part, in another order. -/
inductive Sel : List As → List As → Prop where
  | nil {H} : Sel H []
  | cons {P H H2 L} (t : Take P H H2) (s : Sel H2 L) : Sel H (P :: L)
theorem hp_cons_mono {G : GB} {S : St} {F P : As} {H H' : List As} (m : ∀ F', Hp G S F' H → Hp G S F' H') (p : Hp G S F (P :: H)) : Hp G S F (P :: H') := by
  have h1 : Hp G S F (H ++ [P]) := hp_map (fun h s => by
    obtain ⟨a, b, d, rfl, fa, c, e, d2, rfl, pc, se⟩ := s
    exact ⟨a, _, d, rfl, fa, sat_append.2 ⟨e, c, d2.symm, Un_comm d2, se, c, E0, Dj_E0 _, (Un_E0 _).symm, pc, rfl⟩⟩) p
  have h2 := hp_unframe (m _ (hp_frame h1))
  exact hp_map (fun h s => by
    obtain ⟨a, b, d, rfl, fa, s2⟩ := s
    obtain ⟨e, c, d2, rfl, se, c', z, d3, rfl, pc, hz⟩ := sat_append.1 s2
    cases hz
    rw [Un_E0] at d2 d ⊢
    exact ⟨a, _, d, rfl, fa, c', e, d2.symm, Un_comm d2, pc, se⟩) h2
theorem hp_sel {G : GB} {S : St} : ∀ {H L : List As}, Sel H L → ∀ {F : As}, Hp G S F H → Hp G S F L
  | [], _, .nil, F, p => p
  | _ :: H, _, .nil, F, p => hp_sel (H := H) .nil (hp_drop p)
  | _, _, .cons t s, F, p => hp_cons_mono (fun F' q => hp_sel s q) (hp_take t p)
  termination_by H => H.length
  decreasing_by
    · simp
    · rename_i t _ _
      have : ∀ {P : As} {H H2 : List As}, Take P H H2 → H2.length < H.length := fun t => by
        induction t with
        | head => simp
        | tail _ ih => simpa using ih
      exact this t

/-- What is ours is that, too (and maybe more). -/
def HLe (G : GB) (H H' : List As) : Prop := ∀ S F, Hp G S F H → Hp G S F H'
theorem HLe.refl {G : GB} {H : List As} : HLe G H H := fun _ _ p => p
theorem HLe.trans {G : GB} {H H' H'' : List As} (h : HLe G H H') (k : HLe G H' H'') : HLe G H H'' := fun _ _ p => k _ _ (h _ _ p)
theorem HLe.cons {G : GB} {P : As} {H H' : List As} (h : HLe G H H') : HLe G (P :: H) (P :: H') := fun _ _ p => hp_cons_mono (fun F' q => h _ _ q) p
theorem HLe.drop {G : GB} {P : As} {H H' : List As} (h : HLe G H H') : HLe G (P :: H) H' := fun _ _ p => h _ _ (hp_drop p)
theorem HLe.take {G : GB} {P : As} {H H2 H' : List As} (t : Take P H H2) (h : HLe G H2 H') : HLe G H (P :: H') := fun _ _ p => HLe.cons h _ _ (hp_take t p)
theorem HLe.nil {G : GB} {H : List As} : HLe G H [] := fun _ _ p => hp_sel .nil p
theorem HLe.splitNil {G : GB} {H : List As} : HLe G H ([] ++ H) := HLe.refl
theorem HLe.splitCons {G : GB} {P : As} {H H2 L R : List As} (t : Take P H H2) (h : HLe G H2 (L ++ R)) : HLe G H ((P :: L) ++ R) := HLe.take t h

/-! ### Environments -/
abbrev Env := List (Nat × AV)
def lk : Env → Nat → Option AV
  | [], _ => none
  | (m, v) :: E, n => cond (Nat.beq m n) (some v) (lk E n)
def evE (E : Env) : X → Option AV
  | .t n => lk E n
  | .c v => some v
def evEs (E : Env) : List X → Option (List AV)
  | [] => some []
  | x :: l => match evE E x, evEs E l with
    | some v, some vs => some (v :: vs)
    | _, _ => none
def evEO (E : Env) : Option X → Option (Option AV)
  | none => some none
  | some x => match evE E x with
    | some v => some (some v)
    | none => none
def evEP (E : Env) : List (Nat × Nat × X) → Option (List (Nat × Nat × AV))
  | [] => some []
  | (o, s, x) :: l => match evE E x, evEP E l with
    | some v, some vs => some ((o, s, v) :: vs)
    | _, _ => none
def putE (E : Env) : Option Nat → AV → Env
  | none, _ => E
  | some d, v => (d, v) :: E
def FrE (E : Env) (fr : Fr) : Prop := ∀ n v, lk E n = some v → fr.get n = some v
theorem FrE.ev {E : Env} {fr : Fr} (h : FrE E fr) : ∀ {x : X} {v : AV}, evE E x = some v → evX fr x = some v
  | .t n, v, e => h n v e
  | .c _, v, e => e
theorem FrE.evs {E : Env} {fr : Fr} (h : FrE E fr) : ∀ {l : List X} {vs : List AV}, evEs E l = some vs → evXs fr l = some vs
  | [], vs, e => e
  | x :: l, vs, e => by
    simp only [evEs] at e
    split at e <;> (try (cases e; done))
    rename_i v vs' h1 h2
    simp only [evXs, h.ev h1, h.evs h2]; exact e
theorem FrE.evp {E : Env} {fr : Fr} (h : FrE E fr) : ∀ {l : List (Nat × Nat × X)} {vs : List (Nat × Nat × AV)}, evEP E l = some vs → evParts fr l = some vs
  | [], vs, e => e
  | (o, s, x) :: l, vs, e => by
    simp only [evEP] at e
    split at e <;> (try (cases e; done))
    rename_i v vs' h1 h2
    simp only [evParts, h.ev h1, h.evp h2]; exact e
theorem FrE.evo {E : Env} {fr : Fr} (h : FrE E fr) : ∀ {x : Option X} {v : Option AV}, evEO E x = some v → evO fr x = some v
  | none, v, e => e
  | some x, v, e => by
    simp only [evEO] at e
    split at e <;> (try (cases e; done))
    rename_i w hw
    simp only [evO, h.ev hw]; exact e
theorem FrE.put {E : Env} {fr : Fr} (h : FrE E fr) (d : Option Nat) (v : AV) : FrE (putE E d v) (putD fr d (some v)) := by
  cases d with
  | none => exact h
  | some d =>
    intro n w e
    simp only [putE, lk] at e
    simp only [putD, Tr.get_put]
    by_cases hn : n = d
    · subst hn
      simp at e
      simp [e]
    · have hb : Nat.beq d n = false := by
        cases hh : Nat.beq d n with
        | false => rfl
        | true => exact absurd (Nat.eq_of_beq_eq_true hh).symm hn
      rw [hb] at e
      simp only [hn, if_false]
      exact h n w e
def SubE (E E' : Env) : Prop := ∀ n v, lk E' n = some v → lk E n = some v
theorem SubE.nil {E : Env} : SubE E [] := fun _ _ e => by cases e
theorem SubE.cons {E E' : Env} {d : Nat} {v : AV} (h : lk E d = some v) (t : SubE E E') : SubE E ((d, v) :: E') := fun n w e => by
  simp only [lk] at e
  cases hh : Nat.beq d n with
  | false => rw [hh] at e; exact t n w e
  | true => rw [hh] at e; cases e; rw [← Nat.eq_of_beq_eq_true hh]; exact h
theorem FrE.sub {E E' : Env} {fr : Fr} (h : FrE E fr) (s : SubE E E') : FrE E' fr := fun n v e => h n v (s n v e)
def argsE : Nat → List AV → Env
  | _, [] => []
  | n, v :: l => (n, v) :: argsE (n + 1) l
theorem FrE.enter : ∀ (vs : List AV) (n : Nat), FrE (argsE n vs) (enter n vs)
  | [], n => fun _ _ e => by cases e
  | v :: l, n => (FrE.enter l (n + 1)).put (some n) v

/-! ### What code comes to -/
variable {AP : AProg}
def CtC (AP : AProg) (f : Nat) (vs : List AV) (S : St) (v : AV) (S' : St) : Prop := ∃ n, callA AP n f vs S = some (v, S')

def WpI (AP : AProg) (G : GB) (l : List AI) (E : Env) (H : List As) (Q : GB → Env → List As → Prop) : Prop :=
  ∀ F S fr, Hp G S F H → FrE E fr → ∃ n fr' S', runIs AP.methods (callA AP n) l fr S = some (fr', S') ∧ ∃ G' E' H', Q G' E' H' ∧ Hp G' S' F H' ∧ FrE E' fr' ∧ GLe G G'
def Wp (AP : AProg) (G : GB) (c : ACode) (E : Env) (H : List As) (Q : AEx → GB → Env → List As → Prop) : Prop :=
  ∀ F S fr, Hp G S F H → FrE E fr → ∃ n e fr' S', exec AP n c fr S = some (e, fr', S') ∧ ∃ G' E' H', Q e G' E' H' ∧ Hp G' S' F H' ∧ FrE E' fr' ∧ GLe G G'
/-- A call. -/
def Ct (AP : AProg) (f : Nat) (vs : List AV) (G : GB) (H : List As) (R : AV → GB → List As → Prop) : Prop :=
  ∀ F S, Hp G S F H → ∃ n v S', callA AP n f vs S = some (v, S') ∧ ∃ G' H', R v G' H' ∧ Hp G' S' F H' ∧ GLe G G'

section
variable {G : GB} {E : Env} {H : List As} {Q : AEx → GB → Env → List As → Prop} {K : GB → Env → List As → Prop} {l : List AI}

theorem Ct.mono {f vs R R'} (h : Ct AP f vs G H R) (m : ∀ v G' H', GLe G G' → R v G' H' → R' v G' H') : Ct AP f vs G H R' := fun F S p => by
  obtain ⟨n, v, S', h1, G', H', h2, h3, h4⟩ := h F S p
  exact ⟨n, v, S', h1, G', H', m _ _ _ h4 h2, h3, h4⟩
theorem Ct.frame {f vs R} {H2 : List As} (h : Ct AP f vs G H R) : Ct AP f vs G (H ++ H2) (fun v G' H' => ∃ H1, R v G' H1 ∧ H' = H1 ++ H2) := fun F S p => by
  obtain ⟨n, v, S', h1, G', H', h2, h3, h4⟩ := h _ S (hp_frame p)
  exact ⟨n, v, S', h1, G', H' ++ H2, ⟨H', h2, rfl⟩, hp_unframe h3, h4⟩
theorem Ct.pre {f vs R} {H2 : List As} (h : Ct AP f vs G H2 R) (m : HLe G H H2) : Ct AP f vs G H R := fun F S p => h F S (m _ _ p)
theorem Wp.pre {c} {E2 : Env} {H2 : List As} (h : Wp AP G c E2 H2 Q) (s : SubE E E2) (m : HLe G H H2) : Wp AP G c E H Q := fun F S fr p f => h F S fr (m _ _ p) (f.sub s)
theorem WpI.pre {E2 : Env} {H2 : List As} (h : WpI AP G l E2 H2 K) (s : SubE E E2) (m : HLe G H H2) : WpI AP G l E H K := fun F S fr p f => h F S fr (m _ _ p) (f.sub s)
theorem Wp.sel {c} {H2 : List As} (s : Sel H H2) (h : Wp AP G c E H2 Q) : Wp AP G c E H Q := h.pre (fun _ _ e => e) (fun _ _ => hp_sel s)
theorem WpI.sel {H2 : List As} (s : Sel H H2) (h : WpI AP G l E H2 K) : WpI AP G l E H K := h.pre (fun _ _ e => e) (fun _ _ => hp_sel s)
theorem Wp.mono {c} {Q' : AEx → GB → Env → List As → Prop} (h : Wp AP G c E H Q) (m : ∀ e G' E' H', GLe G G' → Q e G' E' H' → Q' e G' E' H') : Wp AP G c E H Q' := fun F S fr p f => by
  obtain ⟨n, e, fr', S', h1, G', E', H', h2, h3, h4, h5⟩ := h F S fr p f
  exact ⟨n, e, fr', S', h1, G', E', H', m _ _ _ _ h5 h2, h3, h4, h5⟩
theorem Wp.ex {α : Sort _} {c} {P : α → As} {H2 : List As} (t : Take (exA P) H H2) (h : ∀ x, Wp AP G c E (P x :: H2) Q) : Wp AP G c E H Q := fun F S fr p f => by
  obtain ⟨x, q⟩ := hp_ex (hp_take t p)
  exact h x F S fr q f
theorem Wp.star {c} {L H2 : List As} (t : Take (star L) H H2) (h : Wp AP G c E (L ++ H2) Q) : Wp AP G c E H Q := fun F S fr p f => h F S fr (hp_star (hp_take t p)) f
theorem Wp.pure {c} {q : Prop} {H2 : List As} (t : Take (pureA q) H H2) (h : q → Wp AP G c E H2 Q) : Wp AP G c E H Q := fun F S fr p f => h (hp_pure (hp_take t p)).1 F S fr (hp_pure (hp_take t p)).2 f
theorem Wp.fact {c} {q : Prop} (h : ∀ S F, Hp G S F H → q) (k : q → Wp AP G c E H Q) : Wp AP G c E H Q := fun F S fr p f => k (h _ _ p) F S fr p f
theorem WpI.fact {q : Prop} (h : ∀ S F, Hp G S F H → q) (k : q → WpI AP G l E H K) : WpI AP G l E H K := fun F S fr p f => k (h _ _ p) F S fr p f
theorem Wp.hle {c} {H2 : List As} (s : HLe G H H2) (h : Wp AP G c E H2 Q) : Wp AP G c E H Q := h.pre (fun _ _ e => e) s
theorem WpI.hle {H2 : List As} (s : HLe G H H2) (h : WpI AP G l E H2 K) : WpI AP G l E H K := h.pre (fun _ _ e => e) s
theorem WpI.ex {α : Sort _} {P : α → As} {H2 : List As} (t : Take (exA P) H H2) (h : ∀ x, WpI AP G l E (P x :: H2) K) : WpI AP G l E H K := fun F S fr p f => by
  obtain ⟨x, q⟩ := hp_ex (hp_take t p)
  exact h x F S fr q f
theorem WpI.star {L H2 : List As} (t : Take (star L) H H2) (h : WpI AP G l E (L ++ H2) K) : WpI AP G l E H K := fun F S fr p f => h F S fr (hp_star (hp_take t p)) f
theorem WpI.freeze {b o} {H2 : List As} (t : Take (pt b o) H H2) (h : GLe G (putG G b o) → WpI AP (putG G b o) l E H2 K) : WpI AP G l E H K := fun F S fr p f => by
  obtain ⟨q, le⟩ := hp_freeze (hp_take t p)
  obtain ⟨n, fr', S', h1, G', E', H', h2, h3, h4, h5⟩ := h le F S fr q f
  exact ⟨n, fr', S', h1, G', E', H', h2, h3, h4, le.trans h5⟩
theorem Wp.freeze {c} {b o} {H2 : List As} (t : Take (pt b o) H H2) (h : GLe G (putG G b o) → Wp AP (putG G b o) c E H2 Q) : Wp AP G c E H Q := fun F S fr p f => by
  obtain ⟨q, le⟩ := hp_freeze (hp_take t p)
  obtain ⟨n, e, fr', S', h1, G', E', H', h2, h3, h4, h5⟩ := h le F S fr q f
  exact ⟨n, e, fr', S', h1, G', E', H', h2, h3, h4, le.trans h5⟩

/-! ### Code -/
def onN (K : GB → Env → List As → Prop) (Q : AEx → GB → Env → List As → Prop) : AEx → GB → Env → List As → Prop
  | .normal => K
  | e => Q e
def inB (id : Nat) (Q : AEx → GB → Env → List As → Prop) : AEx → GB → Env → List As → Prop
  | .exit id' => cond (Nat.beq id' id) (Q .normal) (Q (.exit id'))
  | e => Q e
theorem wp_skip (h : Q .normal G E H) : Wp AP G .skip E H Q := fun F S fr p f => ⟨1, .normal, fr, S, rfl, G, E, H, h, p, f, GLe.refl _⟩
theorem wp_exit {id} (h : Q (.exit id) G E H) : Wp AP G (.exit id) E H Q := fun F S fr p f => ⟨1, .exit id, fr, S, rfl, G, E, H, h, p, f, GLe.refl _⟩
theorem wp_ret (h : Q .ret G E H) : Wp AP G .ret E H Q := fun F S fr p f => ⟨1, .ret, fr, S, rfl, G, E, H, h, p, f, GLe.refl _⟩
theorem wp_seq {a b} (h : Wp AP G a E H (onN (fun G' E' H' => Wp AP G' b E' H' Q) Q)) : Wp AP G (.seq a b) E H Q := fun F S fr p f => by
  obtain ⟨n, e, fr', S', h1, G', E', H', h2, h3, h4, h5⟩ := h F S fr p f
  cases e with
  | normal =>
    obtain ⟨n', e', fr2, S2, k1, G2, E2, H2, k2, k3, k4, k5⟩ := h2 F S' fr' h3 h4
    refine ⟨max n n' + 1, e', fr2, S2, ?_, G2, E2, H2, k2, k3, k4, h5.trans k5⟩
    show execStep AP (exec AP (max n n')) (.seq a b) fr S = _
    simp only [execStep, exec_mono (Nat.le_max_left n n') h1, exec_mono (Nat.le_max_right n n') k1]
  | exit id =>
    refine ⟨n + 1, .exit id, fr', S', ?_, G', E', H', h2, h3, h4, h5⟩
    show execStep AP (exec AP n) (.seq a b) fr S = _
    simp only [execStep, h1]
  | ret =>
    refine ⟨n + 1, .ret, fr', S', ?_, G', E', H', h2, h3, h4, h5⟩
    show execStep AP (exec AP n) (.seq a b) fr S = _
    simp only [execStep, h1]
theorem wp_ops {o} (h : WpI AP G l E H (Q .normal)) : Wp AP G (.ops o l) E H Q := fun F S fr p f => by
  obtain ⟨n, fr', S', h1, G', E', H', h2, h3, h4, h5⟩ := h F S fr p f
  refine ⟨n + 1, .normal, fr', S', ?_, G', E', H', h2, h3, h4, h5⟩
  show execStep AP (exec AP n) (.ops o l) fr S = _
  have h1' : runIs AP.methods (callWith AP (exec AP n)) l fr S = some (fr', S') := h1
  simp only [execStep, h1']
theorem wp_seqO {o b} (h : WpI AP G l E H (fun G' E' H' => Wp AP G' b E' H' Q)) : Wp AP G (.seq (.ops o l) b) E H Q := wp_seq (wp_ops h)
/-- Ways that meet again. -/
theorem wp_seq_cut {a b} (M : GB → Env → List As → Prop) (h : Wp AP G a E H (onN M Q)) (k : ∀ G' E' H', GLe G G' → M G' E' H' → Wp AP G' b E' H' Q) : Wp AP G (.seq a b) E H Q :=
  wp_seq (h.mono fun e G' E' H' le q => by cases e <;> first | exact k _ _ _ le q | exact q)
theorem wp_cond {x a b} {p : Bool} (hx : evE E x = some (.bool p)) (h1 : p = true → Wp AP G a E H Q) (h2 : p = false → Wp AP G b E H Q) : Wp AP G (.cond x a b) E H Q := fun F S fr q f => by
  have hx' := f.ev hx
  cases p with
  | true =>
    obtain ⟨n, e, fr', S', k1, k⟩ := h1 rfl F S fr q f
    refine ⟨n + 1, e, fr', S', ?_, k⟩
    show execStep AP (exec AP n) (.cond x a b) fr S = _
    simp only [execStep, hx', k1]
  | false =>
    obtain ⟨n, e, fr', S', k1, k⟩ := h2 rfl F S fr q f
    refine ⟨n + 1, e, fr', S', ?_, k⟩
    show execStep AP (exec AP n) (.cond x a b) fr S = _
    simp only [execStep, hx', k1]
theorem wp_block {id c} (h : Wp AP G c E H (inB id Q)) : Wp AP G (.block id c) E H Q := fun F S fr p f => by
  obtain ⟨n, e, fr', S', h1, G', E', H', h2, h3⟩ := h F S fr p f
  cases e with
  | normal =>
    refine ⟨n + 1, .normal, fr', S', ?_, G', E', H', h2, h3⟩
    show execStep AP (exec AP n) (.block id c) fr S = _
    simp only [execStep, h1]
  | ret =>
    refine ⟨n + 1, .ret, fr', S', ?_, G', E', H', h2, h3⟩
    show execStep AP (exec AP n) (.block id c) fr S = _
    simp only [execStep, h1]
  | exit id' =>
    simp only [inB] at h2
    cases hb : Nat.beq id' id with
    | true =>
      rw [hb] at h2
      refine ⟨n + 1, .normal, fr', S', ?_, G', E', H', h2, h3⟩
      show execStep AP (exec AP n) (.block id c) fr S = _
      simp only [execStep, h1, hb]
    | false =>
      rw [hb] at h2
      refine ⟨n + 1, .exit id', fr', S', ?_, G', E', H', h2, h3⟩
      show execStep AP (exec AP n) (.block id c) fr S = _
      simp only [execStep, h1, hb]
/-- A loop: what holds at each round's head, by a measure that falls. -/
theorem wp_loop {c} (I : Nat → GB → Env → List As → Prop) (step : ∀ m G' E' H', GLe G G' → I m G' E' H' → Wp AP G' c E' H' (onN (fun G2 E2 H2 => ∃ m', m' < m ∧ ∃ E3 H3, SubE E2 E3 ∧ HLe G2 H2 H3 ∧ I m' G2 E3 H3) Q))
    (m : Nat) {E0 : Env} {H0 : List As} (hE : SubE E E0) (hH : HLe G H H0) (h0 : I m G E0 H0) : Wp AP G (.loop c) E H Q := by
  have main : ∀ m G' E' H', GLe G G' → I m G' E' H' → Wp AP G' (.loop c) E' H' Q := by
    intro m
    induction m using Nat.strongRecOn with
    | _ m ih =>
      intro G' E' H' le hI F S fr p f
      obtain ⟨n, e, fr', S', h1, G2, E2, H2, h2, h3, h4, h5⟩ := step m G' E' H' le hI F S fr p f
      cases e with
      | normal =>
        obtain ⟨m', hm, E3, H3, s1, s2, i3⟩ := h2
        obtain ⟨n', e', fr2, S2, k1, G3, E4, H4, k2, k3, k4, k5⟩ := ih m' hm G2 E3 H3 (le.trans h5) i3 F S' fr' (s2 _ _ h3) (h4.sub s1)
        refine ⟨max n n' + 1, e', fr2, S2, ?_, G3, E4, H4, k2, k3, k4, h5.trans k5⟩
        show execStep AP (exec AP (max n n')) (.loop c) fr S = _
        simp only [execStep, exec_mono (Nat.le_max_left n n') h1, exec_mono (Nat.le_max_right n n') k1]
      | exit id =>
        refine ⟨n + 1, .exit id, fr', S', ?_, G2, E2, H2, h2, h3, h4, h5⟩
        show execStep AP (exec AP n) (.loop c) fr S = _
        simp only [execStep, h1]
      | ret =>
        refine ⟨n + 1, .ret, fr', S', ?_, G2, E2, H2, h2, h3, h4, h5⟩
        show execStep AP (exec AP n) (.loop c) fr S = _
        simp only [execStep, h1]
  exact (main m G E0 H0 (GLe.refl _) h0).pre hE hH

/-- A loop that lays nothing for good. -/
theorem wp_loopP {c} (I : Nat → Env → List As → Prop) (step : ∀ m E' H', I m E' H' → Wp AP G c E' H' (onN (fun G2 E2 H2 => G2 = G ∧ ∃ m', m' < m ∧ ∃ E3 H3, SubE E2 E3 ∧ HLe G H2 H3 ∧ I m' E3 H3) Q))
    (m : Nat) {E0 : Env} {H0 : List As} (hE : SubE E E0) (hH : HLe G H H0) (h0 : I m E0 H0) : Wp AP G (.loop c) E H Q :=
  wp_loop (fun m G' E' H' => G' = G ∧ I m E' H') (fun m G' E' H' _ ⟨hg, hI⟩ => by
    subst hg
    refine (step m E' H' hI).mono fun e G2 E2 H2 _ q => ?_
    cases e with
    | normal =>
      obtain ⟨rfl, m', hm, E3, H3, s1, s2, i3⟩ := q
      exact ⟨m', hm, E3, H3, s1, s2, rfl, i3⟩
    | exit id => exact q
    | ret => exact q) m hE hH ⟨rfl, h0⟩

/-- A loop counted from 0 up to 'n' at most. -/
theorem wp_loopX {c} {α : Type} (n : Nat) (E0 : Nat → α → Env) (H0 : Nat → α → List As) (P : Nat → α → Prop) (x0 : α) (h0 : P 0 x0) (hE : SubE E (E0 0 x0)) (hH : HLe G H (H0 0 x0))
    (step : ∀ i x, i ≤ n → P i x → Wp AP G c (E0 i x) (H0 i x) (onN (fun G2 E2 H2 => G2 = G ∧ i < n ∧ ∃ y, P (i + 1) y ∧ SubE E2 (E0 (i + 1) y) ∧ HLe G2 H2 (H0 (i + 1) y)) Q)) : Wp AP G (.loop c) E H Q :=
  wp_loopP (fun m E' H' => ∃ i x, i ≤ n ∧ m = n - i ∧ P i x ∧ E' = E0 i x ∧ H' = H0 i x) (fun m E' H' ⟨i, x, hi, hm, hp, he, hh⟩ => by
    subst he hh
    refine (step i x hi hp).mono fun e G2 E2 H2 _ q => ?_
    cases e with
    | normal =>
      obtain ⟨rfl, hlt, y, hy, s1, s2⟩ := q
      exact ⟨rfl, n - (i + 1), by omega, _, _, s1, s2, i + 1, y, hlt, rfl, hy, rfl, rfl⟩
    | exit id => exact q
    | ret => exact q) n hE hH ⟨0, x0, by omega, by omega, h0, rfl, rfl⟩
/-- The same, where rounds lay things for good. -/
theorem wp_loopG {c} {α : Type} (n : Nat) (E0 : Nat → α → Env) (H0 : Nat → α → List As) (P : Nat → α → GB → Prop) (x0 : α) (h0 : P 0 x0 G) (hE : SubE E (E0 0 x0)) (hH : HLe G H (H0 0 x0))
    (step : ∀ i x G', GLe G G' → i ≤ n → P i x G' → Wp AP G' c (E0 i x) (H0 i x) (onN (fun G2 E2 H2 => i < n ∧ ∃ y, P (i + 1) y G2 ∧ SubE E2 (E0 (i + 1) y) ∧ HLe G2 H2 (H0 (i + 1) y)) Q)) : Wp AP G (.loop c) E H Q :=
  wp_loop (fun m G' E' H' => ∃ i x, i ≤ n ∧ m = n - i ∧ P i x G' ∧ E' = E0 i x ∧ H' = H0 i x) (fun m G' E' H' le ⟨i, x, hi, hm, hp, he, hh⟩ => by
    subst he hh
    refine (step i x G' le hi hp).mono fun e G2 E2 H2 _ q => ?_
    cases e with
    | normal =>
      obtain ⟨hlt, y, hy, s1, s2⟩ := q
      exact ⟨n - (i + 1), by omega, _, _, s1, s2, i + 1, y, hlt, rfl, hy, rfl, rfl⟩
    | exit id => exact q
    | ret => exact q) n hE hH ⟨0, x0, by omega, by omega, h0, rfl, rfl⟩
/-- Ways that meet again, in one form. -/
theorem wp_join {a b} (E0 : Env) (H0 : List As) (h : Wp AP G a E H (onN (fun G' E' H' => G' = G ∧ SubE E' E0 ∧ HLe G' H' H0) Q)) (k : Wp AP G b E0 H0 Q) : Wp AP G (.seq a b) E H Q :=
  wp_seq_cut _ h fun G' E' H' _ ⟨hg, s, t⟩ => by subst hg; exact k.pre s t
theorem wp_joinX {a b} {α : Type} (E0 : α → Env) (H0 : α → List As) (P : α → Prop) (h : Wp AP G a E H (onN (fun G' E' H' => G' = G ∧ ∃ x, P x ∧ SubE E' (E0 x) ∧ HLe G' H' (H0 x)) Q)) (k : ∀ x, P x → Wp AP G b (E0 x) (H0 x) Q) : Wp AP G (.seq a b) E H Q :=
  wp_seq_cut _ h fun G' E' H' _ ⟨hg, x, hp, s, t⟩ => by subst hg; exact (k x hp).pre s t

/-! ### Functions -/
def resE (E : Env) : List ARes → Option (List AV)
  | [] => some []
  | .tmp t :: l => match lk E t, resE E l with
    | some v, some vs => some (v :: vs)
    | _, _ => none
  | .cell _ _ :: _ => none
/-- A slice that is ours and grows: so many elements, their cells. -/
def slA (es : Nat) (v : AV) (n : Nat) (cs : List AV) : As := fun h => (v = .nils ∧ n = 0 ∧ cs = [] ∧ h = E0) ∨ ∃ b, v = .slc b 0 n none ∧ cs.length = n * es ∧ pt b (.cells (some es) false cs) h
theorem hp_slA {S : St} {F : As} {es v n cs} (p : Hp G S F (slA es v n cs :: H)) : (v = .nils ∧ n = 0 ∧ cs = [] ∧ Hp G S F H) ∨ ∃ b, v = .slc b 0 n none ∧ cs.length = n * es ∧ Hp G S F (pt b (.cells (some es) false cs) :: H) := by
  have p0 := p
  obtain ⟨g, h, s, k⟩ := p
  obtain ⟨a, r, dj, rfl, pa, sb⟩ := sat_swap s
  rcases pa with ⟨h1, h2, h3, rfl⟩ | ⟨b, h1, h2, h3⟩
  · exact .inl ⟨h1, h2, h3, hp_drop p0⟩
  · exact .inr ⟨b, h1, h2, g, _, sat_swap ⟨a, r, dj, rfl, h3, sb⟩, k⟩
theorem hp_slA_nil {S : St} {F : As} {es} (p : Hp G S F H) : Hp G S F (slA es .nils 0 [] :: H) := by
  obtain ⟨g, h, s, k⟩ := p
  exact ⟨g, h, sat_swap ⟨E0, h, E0_Dj _, rfl, .inl ⟨rfl, rfl, rfl, rfl⟩, s⟩, k⟩
theorem hp_slA_pt {S : St} {F : As} {es b n cs} (hl : cs.length = n * es) (p : Hp G S F (pt b (.cells (some es) false cs) :: H)) : Hp G S F (slA es (.slc b 0 n none) n cs :: H) := by
  obtain ⟨g, h, s, k⟩ := p
  obtain ⟨a, r, dj, rfl, pa, sb⟩ := sat_swap s
  exact ⟨g, _, sat_swap ⟨a, r, dj, rfl, .inr ⟨b, rfl, hl, pa⟩, sb⟩, k⟩
theorem HLe.nilS {es : Nat} : HLe G H (slA es .nils 0 [] :: H) := fun _ _ p => hp_slA_nil p
/-- What a slice that is ours looks like. -/
def SlForm (es : Nat) (v : AV) (n : Nat) (cs : List AV) : Prop := (v = .nils ∧ n = 0 ∧ cs = []) ∨ ∃ b, v = .slc b 0 n none ∧ cs.length = n * es
theorem slA_form {S : St} {F : As} {es v n cs} {H2 : List As} (t : Take (slA es v n cs) H H2) (p : Hp G S F H) : SlForm es v n cs := by
  rcases hp_slA (hp_take t p) with ⟨h1, h2, h3, _⟩ | ⟨b, h1, h2, _⟩
  · exact .inl ⟨h1, h2, h3⟩
  · exact .inr ⟨b, h1, h2⟩
theorem SlForm.len {es v n cs} (h : SlForm es v n cs) : lenSl v = some n := by
  rcases h with ⟨rfl, rfl, rfl⟩ | ⟨b, rfl, h2⟩ <;> rfl
theorem SlForm.clen {es v n cs} (h : SlForm es v n cs) : cs.length = n * es := by
  rcases h with ⟨rfl, rfl, rfl⟩ | ⟨b, rfl, h2⟩
  · simp
  · exact h2
inductive Reads (G : GB) (H : List As) (b : Nat) (o : AObj) : Prop where
  | g (h : G b = some o)
  | h {H2} (t : Take (pt b o) H H2)
  | s {H2 es n cs} (t : Take (slA es (.slc b 0 n none) n cs) H H2) (e : o = .cells (some es) false cs)
theorem Reads.tail {P : As} {b : Nat} {o : AObj} (r : Reads G H b o) : Reads G (P :: H) b o := by
  cases r with
  | g h => exact .g h
  | h t => exact .h (.tail t)
  | s t e => exact .s (.tail t) e
theorem Reads.get {S : St} {F : As} {b : Nat} {o : AObj} (r : Reads G H b o) (p : Hp G S F H) : S.heap.get b = some o ∧ b < S.next := by
  cases r with
  | g h => exact p.1 b o h
  | h t => exact ⟨(hp_get (hp_take t p)).1, (hp_get (hp_take t p)).2.1⟩
  | s t e =>
    subst e
    rcases hp_slA (hp_take t p) with ⟨h1, _⟩ | ⟨b', h1, _, q⟩
    · cases h1
    · cases h1; exact ⟨(hp_get q).1, (hp_get q).2.1⟩
inductive Res (G : GB) (E : Env) (H : List As) : List ARes → List AV → Prop where
  | nil : Res G E H [] []
  | tmp {t l v vs} (h : lk E t = some v) (k : Res G E H l vs) : Res G E H (.tmp t :: l) (v :: vs)
  | cell {t sz l v vs b o op ro c} (h : lk E t = some (.ptr b o)) (r : Reads G H b (.cells op ro c)) (hp : Ab.part c o sz = some v) (k : Res G E H l vs) : Res G E H (.cell t sz :: l) (v :: vs)
theorem Res.run {S : St} {F : As} {fr : Fr} (p : Hp G S F H) (f : FrE E fr) : ∀ {l vs}, Res G E H l vs → Ab.results fr S l = some vs
  | _, _, .nil => rfl
  | _, _, .tmp h k => by simp only [Ab.results, f _ _ h, Res.run p f k]
  | _, _, .cell h r hp k => by simp only [Ab.results, f _ _ h, loadA, cellsOf, (r.get p).1, hp, Res.run p f k]
def retQ (res : List ARes) (R : AV → GB → List As → Prop) : AEx → GB → Env → List As → Prop
  | .exit _ => fun _ _ _ => False
  | _ => fun G E H => ∃ vs, Res G E H res vs ∧ ∃ H', HLe G H H' ∧ R (asOne vs) G H'
theorem ct_body {f vs R} {fn : AFn} (hp : AP.prims.get f = none) (hf : AP.funcs.get f = some fn) (hn : vs.length = fn.nargs) (h : Wp AP G fn.body (argsE 0 vs) H (retQ fn.res R)) : Ct AP f vs G H R := fun F S p => by
  obtain ⟨n, e, fr', S', h1, G', E', H', h2, h3, h4, h5⟩ := h F S _ p (FrE.enter vs 0)
  have done : ∀ e, e ≠ AEx.exit 0 → True := fun _ _ => trivial
  have fin : (∃ us, Res G' E' H' fn.res us ∧ ∃ H2, HLe G' H' H2 ∧ R (asOne us) G' H2) → (∀ id, e ≠ .exit id) → ∃ n v S', callA AP n f vs S = some (v, S') ∧ ∃ G' H', R v G' H' ∧ Hp G' S' F H' ∧ GLe G G' := by
    rintro ⟨us, r, H2, m, hr⟩ hne
    refine ⟨n, asOne us, S', ?_, G', H2, hr, m _ _ h3, h5⟩
    unfold callA callWith
    simp only [hp, hf]
    unfold callFn
    have hb : Nat.beq vs.length fn.nargs = true := by rw [hn]; exact Nat.beq_refl _
    have hr' := r.run h3 h4
    simp only [hb, h1]
    cases e with
    | exit id => exact absurd rfl (hne id)
    | normal =>
      simp only [hr']
      match us with
      | [] => rfl
      | [_] => rfl
      | _ :: _ :: _ => rfl
    | ret =>
      simp only [hr']
      match us with
      | [] => rfl
      | [_] => rfl
      | _ :: _ :: _ => rfl
  cases e with
  | exit id => exact h2.elim
  | normal => exact fin h2 (fun _ h => by cases h)
  | ret => exact fin h2 (fun _ h => by cases h)
end
attribute [irreducible] pt star exA pureA slA
end Go.Sl
