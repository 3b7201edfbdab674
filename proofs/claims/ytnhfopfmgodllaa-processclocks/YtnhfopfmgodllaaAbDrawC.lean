/-
  REGIONS THAT DRAW THEIR ORDER, THIRD PART: whatever order is drawn, the canonical one's end is reached.
-/
import Derived.Test.YtnhfopfmgodllaaAbDrawB
noncomputable section
namespace Go.Ab
open Go
set_option linter.unusedSectionVars false
variable [Inhabited Unknowns]
variable {P : Program} {gl : List Nat} {names : List String} {methods : List (Nat × Nat × Nat)} {call : Nat → List AV → St → Option (AV × St)}

/-! ### The canonical run -/
def wantedA (i : AI) (fr : Fr) : Option Bool :=
  match i.g with
  | none => some true
  | some (t, want) => match fr.get t with
    | some (.bool b) => some (b == want)
    | some (.tup []) => some false
    | _ => none
theorem wantedA_agree {i : AI} {fr fr' : Fr} (h : Agree i.uses fr fr') : wantedA i fr = wantedA i fr' := by
  unfold wantedA
  cases hg : i.g with
  | none => rfl
  | some g =>
    obtain ⟨t, want⟩ := g
    have : fr.get t = fr'.get t := h t (by simp [AI.uses, hg])
    simp only [this]
theorem runOne_eq (i : AI) (nx : Fr → St → Option (Fr × St)) (fr : Fr) (S : St) : runOne methods call i nx fr S = match wantedA i fr with
    | some true => runG methods call i nx fr S
    | some false => nx (putD fr i.dst (some (.tup []))) S
    | none => none := by
  unfold runOne wantedA
  cases i.g with
  | none => rfl
  | some g =>
    obtain ⟨t, want⟩ := g
    simp only []
    generalize fr.get t = x
    cases x with
    | none => rfl
    | some v =>
      cases v with
      | bool b => cases b <;> cases want <;> rfl
      | tup l => cases l <;> rfl
      | _ => rfl

def one (methods : List (Nat × Nat × Nat)) (call : Nat → List AV → St → Option (AV × St)) (i : AI) (fr : Fr) (S : St) : Option (Fr × St) := runOne methods call i (fun fr S => some (fr, S)) fr S
theorem one_cases {i : AI} {fr : Fr} {S : St} {fr' : Fr} {S' : St} (h : one methods call i fr S = some (fr', S')) :
    (wantedA i fr = some true ∧ ∃ v, runI methods call i.op fr S = some (v, S') ∧ fr' = putD fr i.dst (some v)) ∨ (wantedA i fr = some false ∧ S' = S ∧ fr' = putD fr i.dst (some (.tup []))) := by
  unfold one at h
  rw [runOne_eq] at h
  split at h
  · rename_i hw
    unfold runG at h
    split at h
    · rename_i v S1 hr; cases h; exact .inl ⟨hw, v, hr, rfl⟩
    · cases h
  · rename_i hw; cases h; exact .inr ⟨hw, rfl, rfl⟩
  · cases h
theorem one_ran {i : AI} {fr : Fr} {S S' : St} {v : AV} (hw : wantedA i fr = some true) (h : runI methods call i.op fr S = some (v, S')) : one methods call i fr S = some (putD fr i.dst (some v), S') := by
  unfold one; rw [runOne_eq, hw]; simp only [runG, h]
theorem one_skipped {i : AI} {fr : Fr} {S : St} (hw : wantedA i fr = some false) : one methods call i fr S = some (putD fr i.dst (some (.tup [])), S) := by
  unfold one; rw [runOne_eq, hw]
theorem runOne_then {i : AI} {nx : Fr → St → Option (Fr × St)} {fr : Fr} {S : St} {r : Fr × St} (h : runOne methods call i nx fr S = some r) : ∃ fr1 S1, one methods call i fr S = some (fr1, S1) ∧ nx fr1 S1 = some r := by
  rw [runOne_eq] at h
  split at h
  · rename_i hw
    unfold runG at h
    split at h
    · rename_i v S1 hr; exact ⟨_, _, one_ran hw hr, h⟩
    · cases h
  · rename_i hw; exact ⟨_, _, one_skipped hw, h⟩
  · cases h

structure Trace (methods : List (Nat × Nat × Nat)) (call : Nat → List AV → St → Option (AV × St)) (l : List AI) (F : Nat → Fr) (T : Nat → St) : Prop where
  at' : ∀ p a, l[p]? = some a → one methods call a (F p) (T p) = some (F (p + 1), T (p + 1))

theorem trace_of : ∀ (l : List AI) {fr : Fr} {S : St} {fr' : Fr} {S' : St}, runIs methods call l fr S = some (fr', S') → ∃ F T, Trace methods call l F T ∧ F 0 = fr ∧ T 0 = S ∧ F l.length = fr' ∧ T l.length = S'
  | [], fr, S, fr', S', h => by
    obtain ⟨rfl, rfl⟩ : fr = fr' ∧ S = S' := by simpa [runIs] using h
    exact ⟨fun _ => fr, fun _ => S, ⟨fun p a e => by simp at e⟩, rfl, rfl, rfl, rfl⟩
  | i :: l, fr, S, fr', S', h => by
    obtain ⟨fr1, S1, h1, h2⟩ := runOne_then (nx := runIs methods call l) h
    obtain ⟨F, T, t, f0, s0, fn, sn⟩ := trace_of l h2
    refine ⟨fun n => match n with | 0 => fr | n + 1 => F n, fun n => match n with | 0 => S | n + 1 => T n, ⟨fun p a e => ?_⟩, rfl, rfl, fn, sn⟩
    cases p with
    | zero => simp at e; subst e; simp only [f0, s0]; exact h1
    | succ p => exact t.at' p a (by simpa using e)

theorem putD_get (fr : Fr) (d : Option Nat) (v : AV) (t : Nat) : (putD fr d (some v)).get t = if d = some t then some v else fr.get t := by
  cases d with
  | none => simp [putD]
  | some x =>
    simp only [putD, Tr.get_put, Option.some.injEq]
    by_cases h : x = t
    · subst h; simp
    · rw [if_neg h, if_neg (fun e => h e.symm)]

theorem one_frame {i : AI} {fr : Fr} {S : St} {fr' : Fr} {S' : St} (h : one methods call i fr S = some (fr', S')) : ∃ v, fr' = putD fr i.dst (some v) := by
  rcases one_cases h with ⟨_, v, _, e⟩ | ⟨_, _, e⟩
  · exact ⟨v, e⟩
  · exact ⟨_, e⟩

/-! ### Along the canonical run -/
section
variable {ops : Array Oper} {N : Nat} {ord : List (Option Nat)} {l : List AI} {es : List Ent} {A : Tr Nat} {F : Nat → Fr} {T : Nat → St}
variable (fa : Facts P gl names ops N ord l es A) (tr : Trace methods call l F T)

theorem Facts.at' (fa : Facts P gl names ops N ord l es A) {p : Nat} (hp : p < l.length) : (∃ e ∈ es, e.p = p) ∨ ∃ a, ord[p]? = some none ∧ l[p]? = some a := by
  have hpo : p < ord.length := by rw [fa.len]; exact hp
  have h1 : ord[p]? = some ord[p] := List.getElem?_eq_getElem hpo
  have h2 : l[p]? = some l[p] := List.getElem?_eq_getElem hp
  cases x : ord[p] with
  | none => exact .inr ⟨_, by rw [h1, x], h2⟩
  | some i => exact .inl ⟨⟨p, i, l[p]⟩, (fa.mem _).2 ⟨by simp [h1, x], by simp [h2]⟩, rfl⟩
theorem Facts.uniq (fa : Facts P gl names ops N ord l es A) {a b : Ent} (ha : a ∈ es) (hb : b ∈ es) (h : a.p = b.p) : a = b := by
  obtain ⟨a1, a2⟩ := (fa.mem a).1 ha
  obtain ⟨b1, b2⟩ := (fa.mem b).1 hb
  cases a; cases b; simp_all
theorem Facts.uniqI (fa : Facts P gl names ops N ord l es A) {a b : Ent} (ha : a ∈ es) (hb : b ∈ es) (h : a.i = b.i) : a = b := by
  by_cases e : a.p = b.p
  · exact fa.uniq ha hb e
  · exact absurd h (fa.ne a ha b hb e)
theorem Facts.lt (fa : Facts P gl names ops N ord l es A) {a : Ent} (ha : a ∈ es) : a.p < l.length := by
  obtain ⟨_, a2⟩ := (fa.mem a).1 ha
  rcases Nat.lt_or_ge a.p l.length with h | h
  · exact h
  · rw [List.getElem?_eq_none h] at a2; cases a2

include fa tr in
/-- Looking again turns nothing. -/
theorem re_same {p : Nat} {a : AI} (h1 : ord[p]? = some none) (h2 : l[p]? = some a) : T (p + 1) = T p ∧ F (p + 1) = F p := by
  obtain ⟨d, sz, x, ho, hd⟩ := fa.re p a h1 h2
  have := tr.at' p a h2
  rcases one_cases this with ⟨_, v, hr, e⟩ | ⟨_, e1, e2⟩
  · rw [e, hd]
    refine ⟨?_, rfl⟩
    rw [ho] at hr
    simp only [runI, stepF, do_recheck] at hr
    (repeat' split at hr) <;> (try (cases hr; done)) <;> (simp only [Option.some.injEq, Prod.mk.injEq] at hr; exact hr.2.symm)
  · rw [e1, e2, hd]; exact ⟨rfl, rfl⟩

include fa tr in
/-- The frame on the way: what was written before. -/
theorem canon : ∀ p, p ≤ l.length → (∀ e ∈ es, e.p < p → ∀ t, e.ai.dst = some t → (F p).get t = (F (e.p + 1)).get t) ∧ (∀ t, (∀ e ∈ es, e.p < p → e.ai.dst ≠ some t) → (F p).get t = (F 0).get t) := by
  intro p
  induction p with
  | zero => intro _; exact ⟨fun e _ h => by omega, fun t _ => rfl⟩
  | succ p ih =>
    intro hp
    obtain ⟨h1, h2⟩ := ih (by omega)
    rcases fa.at' (p := p) (by omega) with ⟨e0, m0, rfl⟩ | ⟨a, r1, r2⟩
    · obtain ⟨v, hv⟩ := one_frame (tr.at' e0.p e0.ai ((fa.mem e0).1 m0).2)
      constructor
      · intro e he hlt t ht
        rcases Nat.eq_or_lt_of_le (Nat.le_of_lt_succ hlt) with x | x
        · rw [x]
        · rw [hv, putD_get, if_neg (fa.dst e0 m0 e he (by omega) t ht)]
          exact h1 e he x t ht
      · intro t ht
        rw [hv, putD_get, if_neg (ht e0 m0 (by omega))]
        exact h2 t fun e he hlt => ht e he (by omega)
    · obtain ⟨_, hF⟩ := re_same fa tr r1 r2
      rw [hF]
      refine ⟨fun e he hlt t ht => ?_, fun t ht => h2 t fun e he hlt => ht e he (by omega)⟩
      refine h1 e he ?_ t ht
      rcases Nat.eq_or_lt_of_le (Nat.le_of_lt_succ hlt) with x | x
      · have := ((fa.mem e).1 he).1
        rw [x, r1] at this; cases this
      · exact x

include fa tr in
/-- What an operation that turns no old block does to the state. -/
theorem step_ext {p : Nat} (hp : p < l.length) (hc : ∀ e ∈ es, e.p = p → e.ai.op.cls ≠ 3) (hf : Fresh (T p)) : Ext (T p) (T (p + 1)) ∧ Fresh (T (p + 1)) := by
  rcases fa.at' hp with ⟨e, he, rfl⟩ | ⟨a, r1, r2⟩
  · rcases one_cases (tr.at' e.p e.ai ((fa.mem e).1 he).2) with ⟨_, v, hr, _⟩ | ⟨_, h, _⟩
    · have h3 := hc e he rfl
      have h4 := fa.cls e he
      have : e.ai.op.cls = 0 ∨ e.ai.op.cls = 1 ∨ e.ai.op.cls = 2 := by
        have : ∀ op : AOp, op.cls ≤ 4 := fun op => by unfold AOp.cls; split <;> omega
        have := this e.ai.op; omega
      rcases this with h | h | h
      · have := (runI_pure h hr).1; simp only at this; rw [this]; exact ⟨Ext.refl _, hf⟩
      · have := (runI_read h hr).1; simp only at this; rw [this]; exact ⟨Ext.refl _, hf⟩
      · obtain ⟨obj, mk, _, hr2, _⟩ := runI_alloc h hr
        simp only [Prod.mk.injEq] at hr2
        rw [hr2.2]; exact ⟨new_ext _ _, new_fresh _ hf⟩
    · rw [h]; exact ⟨Ext.refl _, hf⟩
  · rw [(re_same fa tr r1 r2).1]; exact ⟨Ext.refl _, hf⟩
end
end Go.Ab
