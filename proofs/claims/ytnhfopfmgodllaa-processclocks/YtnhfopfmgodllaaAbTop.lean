/-
  FROM THE MACHINE TO A LAW: the empty state; functions without arguments; a function's code part by part.
-/
import Derived.Test.YtnhfopfmgodllaaAbCode
import Derived.Below
noncomputable section
namespace Go.Ab
open Go
set_option linter.unusedSectionVars false
variable [Inhabited Unknowns]
variable {P : Program} {gl : List Nat} {names : List String}

theorem CallR.mono {f : FuncId} {args : Array Value} {w : World} {R R' : Value → World → Prop} (h : CallR P f args w R) (k : ∀ v w', R v w' → R' v w') : CallR P f args w R' := by
  unfold CallR at *
  split at h
  · exact k _ _ h
  · exact h.mono fun e w'' ⟨v, e1, e2⟩ => ⟨v, e1, k _ _ e2⟩
  · cases h

def Mu0 : Mu := fun _ => none
def St0 : St := ⟨0, .nil⟩
theorem rel0 (w : World) : Rel Mu0 St0 w := ⟨fun _ _ h => (by cases h), fun _ _ _ h => (by cases h), fun _ _ _ _ _ _ h => (by cases h), fun _ _ h => (by cases h)⟩
theorem gr0 : GR [] Mu0 := fun _ h => by cases h
theorem held0 (k : Nat) : ¬ Held Mu0 St0 k := fun ⟨_, _, _, h, _⟩ => by cases h
/-- From the empty state nothing that was there turns. -/
theorem stp0_keep {w : World} {μ' : Mu} {S' : St} {w' : World} (h : Stp Mu0 St0 w μ' S' w') : ∀ k, k < w.heap.size → w'.heap[k]? = w.heap[k]? := fun k hk => h.keep k hk (held0 k)

/-- What a function that takes nothing comes to, it comes to beside any state. -/
theorem closed_prim {call : Nat → List AV → St → Option (AV × St)} (hcall : CallS P [] call) {f : Nat} {b : Bool} {S1 : St} (h : call f [] St0 = some (.bool b, S1)) {μ : Mu} {S : St} {w : World} (hR : Rel μ S w) : CallR P f #[] w (Back μ S w (.bool b) S) := by
  refine (hcall f [] St0 _ S1 h Mu0 w #[] gr0 (rel0 w) .nil).mono fun u w' ⟨μ', h1, _, h3⟩ => ?_
  cases h1
  have keep := stp0_keep h3
  refine ⟨μ, .bool _, ⟨fun b' L e => ⟨(hR.dom b' L e).1, Nat.lt_of_lt_of_le (hR.dom b' L e).2 h3.size⟩, fun b' o L e e' => ?_, hR.inj, hR.fresh⟩, ⟨Mu.le_refl _, fun _ _ x y => (by rw [x] at y; cases y), Nat.le_refl _, fun _ _ _ => rfl, h3.size, fun k hk _ => keep k hk, fun _ x => .inr x, h3.os, h3.tape, h3.output⟩⟩
  obtain ⟨O, g1, g2⟩ := hR.obj b' o L e e'
  exact ⟨O, by rw [keep _ (hR.dom b' L e').2]; exact g1, g2⟩

/-- A function's code. -/
theorem enter_wp {f : Nat} {fn : AFn} (hc : chkFn P gl names f fn = true) {args : Array Value} (hsz : args.size = fn.nargs) {w : World} {R : Ending → World → Prop}
    (h : ∀ N c, chkCode P gl names N c fn.body = true → (∀ k, args.size + k = N → ∀ fin : Exit → Act → World → Prop, (∀ e a' w' fr' S' μ', e = .ret ∨ e = .normal → FrR μ' N fr' a'.tmps → a'.defers = [] → Rel μ' S' w' → ∀ vs, Go.Ab.results fr' S' fn.res = some vs → (∀ u, VR μ' (asOne vs) u → R (.returned u) w') → fin e a' w') →
      c.wp P fin { tmps := args ++ Array.replicate k undef, defers := [] } w)) : Calls P f args w R := by
  unfold chkFn at hc
  split at hc <;> (try (cases hc; done))
  rename_i fd hfd
  split at hc <;> (try (cases hc; done))
  rename_i c hbody
  simp only [Bool.and_eq_true, bne_iff_ne, ne_eq] at hc
  obtain ⟨⟨c1, c2⟩, c3⟩ := hc
  refine calls_of_wp hfd hbody ?_
  refine h _ c c3 (fd.ntmps - args.size) (by rw [hsz]) _ ?_
  intro e a' w' fr' S' μ' he hf hd hR vs hvs hk
  obtain ⟨u, k1, k2⟩ := results_run hR hf c2 hvs
  rcases he with rfl | rfl
  · exact ⟨hd, u, k1, hk u k2⟩
  · exact ⟨hd, u, k1, hk u k2⟩

/-- Code of two parts. -/
theorem CodeS.seq {ex : ACode → Fr → St → Option (AEx × Fr × St)} (hex : CodeS P gl names ex) {N : Nat} {c : Code} {A B : ACode} (hc : chkCode P gl names N c (.seq A B) = true) {fr fr1 : Fr} {S S1 : St} (hA : ex A fr S = some (.normal, fr1, S1))
    {μ : Mu} {w : World} {a : Act} (hg : GR gl μ) (hR : Rel μ S w) (hf : FrR μ N fr a.tmps) (hd : a.defers = []) {Q : Exit → Act → World → Prop}
    (hB : ∀ cB, chkCode P gl names N cB B = true → ∀ μ1 w1 a1, Rel μ1 S1 w1 → FrR μ1 N fr1 a1.tmps → a1.defers = [] → Stp μ S w μ1 S1 w1 → cB.wp P Q a1 w1) : c.wp P Q a w := by
  cases c <;> simp only [chkCode, Bool.and_eq_true, Bool.false_eq_true] at hc
  rename_i cA cB
  refine wp_seq (hex N cA A hc.1 fr S .normal fr1 S1 hA μ w a hg hR hf hd _ fun a1 w1 ⟨μ1, k1, k2, k3, k4⟩ => ?_)
  exact hB cB hc.2 μ1 w1 a1 k3 k1 k2 k4

def stepF' (ex : ACode → Fr → St → Option (AEx × Fr × St)) (A : ACode) (fr : Fr) (S : St) : Fr := match ex A fr S with
  | some (_, fr', _) => fr'
  | none => .nil

/-- What was there stands. -/
theorem stp0_below {w : World} {μ' : Mu} {S' : St} {w' : World} (h : Stp Mu0 St0 w μ' S' w') : RowKit.Below w.heap.size w w' := ⟨h.os, h.tape, h.output, h.size, stp0_keep h⟩

/-- Does a run end by a return, with true in a temporary? -/
def endsTrue (t : Nat) : Option (AEx × Fr × St) → Bool
  | some (.ret, fr, _) => match fr.get t with
    | some (.bool b) => b
    | _ => false
  | _ => false
theorem endsTrue_spec {t : Nat} {r : Option (AEx × Fr × St)} (h : endsTrue t r = true) : ∃ fr S, r = some (.ret, fr, S) ∧ fr.get t = some (.bool true) := by
  unfold endsTrue at h
  split at h
  · rename_i fr S
    split at h
    · rename_i hb; subst h; exact ⟨fr, S, rfl, hb⟩
    · cases h
  · cases h
/-- Does a call give true? -/
def givesTrue : Option (AV × St) → Bool
  | some (.bool b, _) => b
  | _ => false
theorem givesTrue_spec {r : Option (AV × St)} (h : givesTrue r = true) : ∃ S, r = some (.bool true, S) := by
  unfold givesTrue at h
  split at h
  · subst h; exact ⟨_, rfl⟩
  · cases h
/-- Code behind so many parts. -/
def behind : Nat → ACode → ACode
  | 0, c => c
  | n + 1, .seq _ b => behind n b
  | _, c => c
end Go.Ab
