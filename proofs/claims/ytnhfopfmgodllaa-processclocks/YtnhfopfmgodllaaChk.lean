/-
  A part of the proof: contracts of functions of the program, over the abstract machine.
-/
import Derived.Test.YtnhfopfmgodllaaC1
import Derived.Test.YtnhfopfmgodllaaTopC
import Derived.Test.YtnhfopfmgodllaaChecked
import Derived.KernelRfl
noncomputable section
namespace Go.Sl
open Go Go.Ab
set_option maxRecDepth 100000
def names : List String := ["Come", "Instant", "Told", "Result", "Next"]
def allTr {α : Type} (p : Nat → α → Bool) : Tr α → Nat → Nat → Bool
  | .nil, _, _ => true
  | .node l v r, a, b => (match v with | some x => p b x | none => true) && allTr p l (2 * a) (a + b) && allTr p r (2 * a) (2 * a + b)
theorem allTr_spec {α : Type} {p : Nat → α → Bool} : ∀ (t : Tr α) (a b : Nat), allTr p t a b = true → ∀ n x, t.get n = some x → p (a * n + b) x = true
  | .nil, _, _, _, n, x, h => by simp at h
  | .node l v r, a, b, h, n, x, e => by
    simp only [allTr, Bool.and_eq_true] at h
    cases n with
    | zero =>
      rw [Tr.get_node0] at e
      have h1 := h.1.1
      rw [e] at h1
      simpa using h1
    | succ m =>
      rw [Tr.get_nodeS] at e
      split at e
      · rename_i hm
        have := allTr_spec l _ _ h.1.2 _ _ e
        have e2 : 2 * a * (m / 2) + (a + b) = a * (m + 1) + b := by
          obtain ⟨q, rfl⟩ : ∃ q, m = 2 * q := ⟨m / 2, by omega⟩
          rw [Nat.mul_div_cancel_left _ (by omega), Nat.mul_add, Nat.mul_one, Nat.mul_comm 2 a, Nat.mul_assoc]; omega
        rwa [e2] at this
      · rename_i hm
        have := allTr_spec r _ _ h.2 _ _ e
        have e2 : 2 * a * (m / 2) + (2 * a + b) = a * (m + 1) + b := by
          obtain ⟨q, rfl⟩ : ∃ q, m = 2 * q + 1 := ⟨m / 2, by omega⟩
          rw [show (2 * q + 1) / 2 = q by omega, Nat.mul_comm 2 a, Nat.mul_assoc, show a * (2 * q + 1 + 1) = a * (2 * q) + a * 2 from by rw [Nat.mul_add, Nat.mul_add]; omega]; omega
        rwa [e2] at this
theorem allOk : allTr (fun f fn => chkFn Go.Proofs.Try.prog [] names f fn) Cd.funcs 1 0 = true := by kernel_rfl
theorem fnS : FnS Go.Proofs.Try.prog [] names Cd.funcs := fun f fn h => by
  have := allTr_spec Cd.funcs 1 0 allOk f fn h
  rwa [Nat.one_mul, Nat.add_zero] at this
theorem mixed : Go.Proofs.Try.prog.follows .mixedOrders = true := by kernel_rfl
theorem methodOf_mem : ∀ (l : List (Nat × Nat × Nat)) {t m f : Nat}, methodOf l t m = some f → (t, m, f) ∈ l
  | [], t, m, f, h => by simp [methodOf] at h
  | (t', m', f') :: l, t, m, f, h => by
    unfold methodOf at h
    split at h
    · rename_i e; obtain ⟨rfl, rfl⟩ := e; cases h; simp
    · exact List.mem_cons_of_mem _ (methodOf_mem l h)
theorem methS [Inhabited Unknowns] : MethS Go.Proofs.Try.prog names Cd.methods := fun t m f h => by
  have := methodOf_mem _ h
  simp only [Cd.methods, List.mem_cons, Prod.mk.injEq, List.not_mem_nil, or_false] at this
  rcases this with ⟨rfl, rfl, rfl⟩ | ⟨rfl, rfl, rfl⟩ | ⟨rfl, rfl, rfl⟩ | ⟨rfl, rfl, rfl⟩ | ⟨rfl, rfl, rfl⟩ | ⟨rfl, rfl, rfl⟩ | ⟨rfl, rfl, rfl⟩ | ⟨rfl, rfl, rfl⟩ <;> exact ⟨_, rfl, fun a w => by kernel_rfl⟩
def prog0 : AProg := ⟨Cd.funcs, Cd.methods, .nil⟩
theorem awake19 : givesTrue (callA prog0 100000 Cd.n_law19_awake [] St0) = true := by kernel_rfl
theorem awake20 : givesTrue (callA prog0 100000 Cd.n_law20_awake [] St0) = true := by kernel_rfl
theorem primS [Inhabited Unknowns] : PrimS Go.Proofs.Try.prog [] prims := by
  have hcall : CallS Go.Proofs.Try.prog [] (callA prog0 100000) := callA_sound (AP := prog0) (names := names) mixed methS (fun f g h => by simp [prog0] at h) fnS 100000
  have one : ∀ f, givesTrue (callA prog0 100000 f [] St0) = true → ∀ vs S v S', awakeP vs S = some (v, S') → ∀ μ w (args : Array Value), GR [] μ → Rel μ S w → VRs μ vs args.toList → CallR Go.Proofs.Try.prog f args w (Back μ S w v S') := by
    intro f hf vs S v S' h μ w args _ hR hv
    cases vs with
    | nil =>
      cases h
      have : args = #[] := by cases args; rename_i l; cases hv; rfl
      subst this
      obtain ⟨S1, hS1⟩ := givesTrue_spec hf
      exact closed_prim hcall hS1 hR
    | cons _ _ => cases h
  intro f g hg
  simp only [prims, Tr.get_put] at hg
  split at hg
  · rename_i e; subst e; cases hg; exact one _ awake20
  · split at hg
    · rename_i e; subst e; cases hg; exact one _ awake19
    · simp at hg
end Go.Sl
