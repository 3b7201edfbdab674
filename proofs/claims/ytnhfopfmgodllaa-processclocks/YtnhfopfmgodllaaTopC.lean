/-
  A part of the proof: contracts of functions of the program, over the abstract machine.
-/
import Derived.Test.YtnhfopfmgodllaaTopB
import Derived.Below
noncomputable section
namespace Go.Sl
open Go Go.Ab
set_option linter.unusedSectionVars false
set_option linter.unusedVariables false
section
variable [Inhabited Unknowns]
/-- A law's walk, in the model. -/
theorem law_true {P : Program} {names : List String} {AP : AProg} (hmx : P.follows .mixedOrders = true) (hm : MethS P names AP.methods) (hp : PrimS P [] AP.prims) (hf : FnS P [] names AP.funcs) {f : Nat} {fn : AFn} (hfn : AP.funcs.get f = some fn)
    {vs : List AV} {args : Array Value} {μ : Mu} {S : St} {W : World} (r : RO μ S W) (hv : VRs μ vs args.toList) (hct : Ct AP f vs S.heap.get [] (fun v G' H' => v = .bool true ∧ H' = [])) :
    Calls P f args W (fun e W' => e = .returned (.bool true) ∧ RowKit.Below W.heap.size W W') := by
  obtain ⟨n, v, S', h1, G', H', ⟨rfl, _⟩, _, _⟩ := hct (fun h => h = E0) S ⟨fun b o e => ⟨e, r.rel.fresh b o e⟩, E0, ⟨E0, E0, E0_Dj _, rfl, rfl, rfl⟩, fun b o e => by cases e⟩
  have hc := callA_sound (AP := AP) hmx hm hp hf n f vs S _ S' h1 μ W args (fun _ h => by cases h) r.rel hv
  have hk := hf f fn hfn
  unfold chkFn at hk
  split at hk <;> (try (cases hk; done))
  rename_i fd hfd
  split at hk <;> (try (cases hk; done))
  rename_i c hbody
  simp only [Bool.and_eq_true, bne_iff_ne, ne_eq] at hk
  have hrun : (callFunc f args).run P W = .ok (.enter f args) W := by
    simp [callFunc, hfd, hk.1.1, hbody]
  unfold CallR at hc
  rw [hrun] at hc
  refine hc.mono fun e W' ⟨u, he, μ', h1, h2, h3⟩ => ?_
  subst he
  cases h1
  refine ⟨rfl, h3.os, h3.tape, h3.output, h3.size, fun k hk => h3.keep k hk fun ⟨b, o, L, g1, g2, _⟩ => ?_⟩
  rw [r.ro b o g1] at g2; cases g2
end
end Go.Sl
