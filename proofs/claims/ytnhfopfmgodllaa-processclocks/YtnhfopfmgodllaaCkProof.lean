/-
  'marblerunlaw19.ProcessClocks' returns true for every input, and what was there reads as before. No condition beyond the row's own.
-/
import Derived.Test.YtnhfopfmgodllaaRows
import Derived.WalkKit
import Derived.ProofKit
import Derived.OpenShut
import Derived.ShutString
import Derived.ChangeOld
import Derived.Below
import Derived.Test.YtnhfopfmgodllaaChk
namespace Go.Proofs.Ytnhfopfmgodllaa.processClocks
open Go.ChangeShapes Go.WideShapes Go.ChangeAt Go.RowKit
set_option linter.unusedVariables false
set_option linter.unusedSimpArgs false

theorem own : ownKnob Try.prog.godebug = none := by kernel_rfl
theorem cells5 : Try.prog.cellsOf 5 = 1 := by kernel_rfl

set_option maxRecDepth 100000
theorem hfn : Cd.funcs.get 4 = some Cd.f_law19_ProcessClocks := by kernel_rfl

open Go.Sl Go.Ab in
theorem walk {H : Type} {enc : TypeId × Value → H} (a0 : Int) (v1 : Value) (d1 : DataW H) (p1 : List MemPlace) (w : World) (w0 : (Lit.int .u8 a0).wf = true) (hv : Value.okWide Try.prog w .any w.heap.size 22 v1) (hd : DataW.Trod enc Try.prog w 0 (fun _ => true) true 22 v1 d1 p1) :
    Calls Try.prog 4 #[.int .u8 a0, v1] w fun e w' => e = .returned (.bool true) ∧ Below w.heap.size w w' := by
  letI : Inhabited Unknowns := ⟨⟨fun _ => 0⟩⟩
  obtain ⟨μ', S', av, ts, r, _, hvr, hsl, hts⟩ := open_bytes Try.underlying22 Try.underlying5 cells5 hv hd (RO.nil w)
  have hr := u8_rng w0
  obtain ⟨k, rfl⟩ : ∃ k : Nat, a0 = (k : Int) := ⟨a0.toNat, by omega⟩
  exact law_true (AP := Sl.prog) mixed methS primS fnS (f := 4) (fn := Cd.f_law19_ProcessClocks) hfn r (.cons (.int _ _) (.cons hvr .nil)) (ct_ProcessClocks (by omega) hsl hts)

/-! ### THE ROW's STEP: WRITTEN OUT: LEAVE IT -/
set_option maxRecDepth 100000 in
theorem lifted (os : Os) (started : os.Started) (H : Type) (enc : TypeId × Value → H) :
    ReturnsInHanded {} Try.checked os 4 .any (Rows.processClocksSpec.pre6 enc Try.prog Try.f4 Rows.processClocksRow.domain false) (Rows.processClocksSpec.post enc Try.prog Try.f4 false true false false) := by
  refine returnsInHanded_of_change (C := Try.checked) own started (by kernel_rfl) Try.func4
    (ChangeSpec.witness6 (enc := enc) (C := Try.checked) false ⟨#[], #[.int .u8 0, .slice none 0 0], []⟩ 8 (by kernel_rfl) (by kernel_rfl) (by kernel_rfl) (by kernel_rfl)) ?_
  intro W base args ds gs before hval0 hW hcnd _
  have hval : ∀ (j : Nat) t v, Try.f4.params[j]? = some t → args[j]? = some v → Value.okWide Try.prog W .any base t v := hval0
  have hW' := hW
  obtain ⟨p, q, hA0, hV, rfl, hfz, hnd⟩ := hW
  have hA : DataW.TrodAll enc Try.prog W 0 (fun _ => true) true Try.f4.params.toList args.toList ds p := hA0
  have hA1 := hA
  rw [Try.params4] at hA hval
  obtain ⟨v0, vs0, d0, ds0, p0, q0, hargs, rfl, rfl, h0, r0⟩ := trodAll_cons hA
  obtain ⟨v1, vs1, d1, ds1, p1, q1, rfl, rfl, rfl, h1, r1⟩ := trodAll_cons r0
  obtain ⟨rfl, rfl, rfl⟩ := trodAll_nil r1
  obtain rfl : args = #[v0, v1] := by cases args; simp_all
  obtain ⟨rfl, rfl⟩ := trodVars_none hV
  have k1 : Value.okWide Try.prog W .any W.heap.size 22 v1 := Value.okWide_any_base (hval 1 22 v1 rfl rfl)
  obtain ⟨a0, rfl, rfl, rfl, w0⟩ := open_int Try.underlying5 (hval 0 5 v0 rfl rfl) h0
  clear hA0 hval0
  refine (walk a0 v1 d1 p1 W w0 k1 h1).mono fun e W' ⟨he, bel⟩ => ?_
  subst he
  have far5 : Go.Sl.Far enc Try.prog W W' 0 true 5 := Go.Sl.far_int Try.underlying5
  have far22 : Go.Sl.Far enc Try.prog W W' 0 true 22 := Go.Sl.far_slice Try.underlying22 far5 (by rw [cells5]; exact Nat.one_pos) bel.block
  have hfar : ∀ t ∈ Try.f4.params.toList, Go.Sl.Far enc Try.prog W W' 0 true t := by
    rw [Try.params4]
    intro t ht
    simp only [List.mem_cons, List.not_mem_nil, or_false] at ht
    rcases ht with rfl | rfl
    · exact far5
    · exact far22
  exact ⟨_, rfl, _, _, _, [], _, [], hW', trodAll_mk1 (shut_bool Try.underlying4 _), Go.Sl.trodAll_far hfar hA1, rfl, bel.frame _, fun h => by cases h⟩

theorem over : Rows.processClocksRow.holds Try.pinned (OpenSpec.ofChange Rows.processClocksSpec) :=
  OpenClaim.holds_of_wide 4 Try.f4 rfl rfl rfl rfl rfl rfl rfl ⟨rfl, rfl, rfl, rfl, rfl⟩ rfl rfl rfl rfl rfl (by kernel_rfl) Try.func4 (by kernel_rfl)
    (of_decide_eq_true (by kernel_rfl)) (by unfold Func.isWrapper; first | (rw [if_pos (by decide +kernel)]; kernel_rfl) | (rw [if_neg (by decide +kernel)]; exact ⟨rfl, rfl⟩))
    (fun os started H enc _ => lifted os started H enc)

/-- ████ THE STATEMENT ████ -/
theorem proved : Rows.ProcessClocksSaid := over
#print axioms proved
end Go.Proofs.Ytnhfopfmgodllaa.processClocks
