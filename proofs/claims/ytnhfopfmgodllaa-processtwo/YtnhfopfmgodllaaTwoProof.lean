/-
  'marblerunlaw19.ProcessTwo' returns true for every input, and what was there reads as before. No condition beyond the row's own.
-/
import Derived.Test.YtnhfopfmgodllaaRows
import Derived.WalkKit
import Derived.ProofKit
import Derived.OpenShut
import Derived.ShutString
import Derived.ChangeOld
import Derived.Below
import Derived.Test.YtnhfopfmgodllaaTwoEnd
import Derived.Test.YtnhfopfmgodllaaTwoRunsA
import Derived.Test.YtnhfopfmgodllaaTwoRunsB
import Derived.Test.YtnhfopfmgodllaaTwoRunsC
namespace Go.Proofs.Ytnhfopfmgodllaa.processTwo
open Go.ChangeShapes Go.WideShapes Go.ChangeAt Go.RowKit
open Go.ChangeMaps (open_string shut_string)
set_option linter.unusedVariables false

theorem own : ownKnob Try.prog.godebug = none := by kernel_rfl
theorem laidOut : laidOutB Try.prog = true := by kernel_rfl

/-- WHAT THE WALK IS TOLD OF A SLICE OF INTEGERS THAT CAME IN: it is nil; or it leads to a row of 'cap' cells, the numbers 'zs' (the first 'len' are its elements, the rest its spare room), each fitting its kind. -/
def IsRow (k : IntKind) (w : World) (a : Option Addr) (len cap : Nat) (zs : List Int) : Prop :=
  (a = none ∧ len = 0 ∧ cap = 0 ∧ zs = []) ∨
  ∃ x, a = some x ∧ len ≤ cap ∧ cap ≤ maxLen ∧ zs.length = cap ∧ (∀ i, i < zs.length → w.cell? (x.add i) = some (.int k (zs.getD i 0))) ∧ ∀ n ∈ zs, (Lit.int k n).wf = true

open Go.Ab in
theorem runA : ∀ j : Nat, j < 15 → endsTrue 6 (exec Two.prog 100000 Two.rest (Two.frK (j : Int) Two.wA Two.hA) St0) = true := fun j hj => match j, hj with
  | 0, _ => Two.rA0
  | 1, _ => Two.rA1
  | 2, _ => Two.rA2
  | 3, _ => Two.rA3
  | 4, _ => Two.rA4
  | 5, _ => Two.rA5
  | 6, _ => Two.rA6
  | 7, _ => Two.rA7
  | 8, _ => Two.rA8
  | 9, _ => Two.rA9
  | 10, _ => Two.rA10
  | 11, _ => Two.rA11
  | 12, _ => Two.rA12
  | 13, _ => Two.rA13
  | 14, _ => Two.rA14
  | n + 15, h => absurd h (by omega)
open Go.Ab in
theorem runB : ∀ j : Nat, j < 15 → endsTrue 6 (exec Two.prog 100000 Two.rest (Two.frK (j : Int) Two.wB Two.hB) St0) = true := fun j hj => match j, hj with
  | 0, _ => Two.rB0
  | 1, _ => Two.rB1
  | 2, _ => Two.rB2
  | 3, _ => Two.rB3
  | 4, _ => Two.rB4
  | 5, _ => Two.rB5
  | 6, _ => Two.rB6
  | 7, _ => Two.rB7
  | 8, _ => Two.rB8
  | 9, _ => Two.rB9
  | 10, _ => Two.rB10
  | 11, _ => Two.rB11
  | 12, _ => Two.rB12
  | 13, _ => Two.rB13
  | 14, _ => Two.rB14
  | n + 15, h => absurd h (by omega)

/-! ### STEP 1: THE WALK: the Go text returns true, AND WRITES NOTHING THAT WAS THERE: 'Below w.heap.size w w'' (Derived/Below.lean: '.refl', '.alloc', '.drew', '.setCell' at a new block, '.trans'). Open each 'IsRow' by 'rcases' AHEAD of 'go_enter'; part every test ahead of the walk. -/
theorem walk (a0 : Int) (a1 : Int) (a2 : Int) (w : World) (w0 : (Lit.int .u8 a0).wf = true) (w1 : (Lit.int .u8 a1).wf = true) (w2 : (Lit.int .u8 a2).wf = true) :
    Calls Try.prog 5 #[.int .u8 a0, .int .u8 a1, .int .u8 a2] w fun e w' => e = .returned (.bool true) ∧ Below w.heap.size w w' :=
  Two.walk runA runB a0 a1 a2 w w0 w1 w2

/-! ### THE ROW's STEP: WRITTEN OUT: LEAVE IT -/
set_option maxRecDepth 100000 in
theorem lifted (os : Os) (started : os.Started) (H : Type) (enc : TypeId × Value → H) :
    ReturnsInHanded {} Try.checked os 5 .any (Rows.processTwoSpec.pre6 enc Try.prog Try.f5 Rows.processTwoRow.domain false) (Rows.processTwoSpec.post enc Try.prog Try.f5 false true false false) := by
  refine returnsInHanded_of_change (C := Try.checked) own started (by kernel_rfl) Try.func5
    (ChangeSpec.witness6 (enc := enc) (C := Try.checked) false ⟨#[], #[.int .u8 0, .int .u8 0, .int .u8 0], []⟩ 8 (by kernel_rfl) (by kernel_rfl) (by kernel_rfl) (by kernel_rfl)) ?_
  intro W base args ds gs before hval0 hW hcnd _
  have hval : ∀ (j : Nat) t v, Try.f5.params[j]? = some t → args[j]? = some v → Value.okWide Try.prog W .any base t v := hval0
  have hW' := hW
  obtain ⟨p, q, hA0, hV, rfl, hfz, hnd⟩ := hW
  have hA : DataW.TrodAll enc Try.prog W 0 (fun _ => true) true Try.f5.params.toList args.toList ds p := hA0
  rw [Try.params5] at hA hval
  obtain ⟨v0, vs0, d0, ds0, p0, q0, hargs, rfl, rfl, h0, r0⟩ := trodAll_cons hA
  obtain ⟨v1, vs1, d1, ds1, p1, q1, rfl, rfl, rfl, h1, r1⟩ := trodAll_cons r0
  obtain ⟨v2, vs2, d2, ds2, p2, q2, rfl, rfl, rfl, h2, r2⟩ := trodAll_cons r1
  obtain ⟨rfl, rfl, rfl⟩ := trodAll_nil r2
  obtain rfl : args = #[v0, v1, v2] := by cases args; simp_all
  obtain ⟨rfl, rfl⟩ := trodVars_none hV
  obtain ⟨a0, rfl, rfl, rfl, w0⟩ := open_int Try.underlying5 (hval 0 5 v0 rfl rfl) h0
  obtain ⟨a1, rfl, rfl, rfl, w1⟩ := open_int Try.underlying5 (hval 1 5 v1 rfl rfl) h1
  obtain ⟨a2, rfl, rfl, rfl, w2⟩ := open_int Try.underlying5 (hval 2 5 v2 rfl rfl) h2
  clear hA0 hval0
  refine (walk a0 a1 a2 W w0 w1 w2).mono fun e W' ⟨he, bel⟩ => ?_
  subst he
  exact ⟨_, rfl, _, _, _, [], _, [], hW', trodAll_mk1 (shut_bool Try.underlying4 _), (trodAll_cons_mk (shut_int Try.underlying5 w0) (trodAll_cons_mk (shut_int Try.underlying5 w1) (trodAll_cons_mk (shut_int Try.underlying5 w2) trodAll_mk0))), rfl, bel.frame _, fun h => by cases h⟩

theorem over : Rows.processTwoRow.holds Try.pinned (OpenSpec.ofChange Rows.processTwoSpec) :=
  OpenClaim.holds_of_wide 5 Try.f5 rfl rfl rfl rfl rfl rfl rfl ⟨rfl, rfl, rfl, rfl, rfl⟩ rfl rfl rfl rfl rfl (by kernel_rfl) Try.func5 (by kernel_rfl)
    (of_decide_eq_true (by kernel_rfl)) (by unfold Func.isWrapper; first | (rw [if_pos (by decide +kernel)]; kernel_rfl) | (rw [if_neg (by decide +kernel)]; exact ⟨rfl, rfl⟩))
    (fun os started H enc _ => lifted os started H enc)

/-- ████ THE STATEMENT ████ -/
theorem proved : Rows.ProcessTwoSaid := over
#print axioms proved
end Go.Proofs.Ytnhfopfmgodllaa.processTwo
