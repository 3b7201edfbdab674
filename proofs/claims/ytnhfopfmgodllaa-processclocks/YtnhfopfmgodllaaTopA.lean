/-
  A part of the proof: contracts of functions of the program, over the abstract machine.
-/
import Derived.Test.YtnhfopfmgodllaaRep
import Derived.ChangeReads
import Derived.ChangeOld
import Derived.ChangeShapes
import Derived.OpenShut
import Derived.Deep.Slices
noncomputable section
namespace Go.Sl
open Go Go.Ab
set_option linter.unusedSectionVars false
set_option linter.unusedVariables false
section
variable {H : Type} {enc : TypeId × Value → H} {P : Program} {w w' : World} {base : Nat} {held : Bool}
/-- What was read is read behind the call, up to the capacity of what was there. -/
def Far {H : Type} (enc : TypeId × Value → H) (P : Program) (w w' : World) (base : Nat) (held : Bool) (t : TypeId) : Prop := ∀ (n : Nat) (cs : List Value) (x : DataW H × List MemPlace),
  DataW.trod enc P w base (fun _ => true) held n t cs = some x → DataW.trod enc P w' base (fun b => decide (b < w.heap.size)) held n t cs = some x
theorem far_int {t : TypeId} {k : IntKind} (ht : P.underlying t = some (.int k)) : Far enc P w w' base held t := fun n cs x h => by
  cases n with
  | zero => simp [DataW.trod] at h
  | succ n =>
    rw [DataW.trod_step] at h ⊢
    unfold DataW.trodStep at h ⊢
    rw [ht] at h ⊢
    split at h <;> first | exact h | (simp_all; done)
theorem far_bool {t : TypeId} (ht : P.underlying t = some .bool) : Far enc P w w' base held t := fun n cs x h => by
  cases n with
  | zero => simp [DataW.trod] at h
  | succ n =>
    rw [DataW.trod_step] at h ⊢
    unfold DataW.trodStep at h ⊢
    rw [ht] at h ⊢
    split at h <;> first | exact h | (simp_all; done)
theorem far_string {t : TypeId} (ht : P.underlying t = some .string) : Far enc P w w' base held t := fun n cs x h => by
  cases n with
  | zero => simp [DataW.trod] at h
  | succ n =>
    rw [DataW.trod_step] at h ⊢
    unfold DataW.trodStep at h ⊢
    rw [ht] at h ⊢
    split at h <;> first | exact h | (simp_all; done)
theorem far_struct {t : TypeId} {fs : Array Field} (ht : P.underlying t = some (.struct fs)) (hf : ∀ f ∈ fs.toList, Far enc P w w' base held f.type) : Far enc P w w' base held t := fun n cs x h => by
  cases n with
  | zero => simp [DataW.trod] at h
  | succ n =>
    rw [DataW.trod_step] at h ⊢
    unfold DataW.trodStep at h ⊢
    rw [ht] at h ⊢
    simp only at h ⊢
    split at h <;> (try (cases h; done))
    rename_i hc
    rw [if_pos hc]
    obtain ⟨xs, h1, h2⟩ := Option.map_eq_some_iff.1 h
    rw [mapM_carry h1 fun f y hfm _ e => hf f hfm n _ _ e]
    simp only [Option.map_some, h2]
theorem far_slice {t e : TypeId} (ht : P.underlying t = some (.slice e)) (he : Far enc P w w' base held e) (hc : 0 < P.cellsOf e) (hb : ∀ k, k < w.heap.size → w'.heap[k]? = w.heap[k]?) : Far enc P w w' base held t := fun n cs x h => by
  have same : ∀ p : MemPlace, p.block < w.heap.size → w.sameAt w' p := fun p hp => by
    cases p with
    | cell b o => exact World.cell?_of_block (a := ⟨b, o, none⟩) (hb b hp)
    | map b => exact hb b hp
  cases n with
  | zero => simp [DataW.trod] at h
  | succ n =>
    have hlt := DataW.trod_lt (n + 1) t cs x h
    rw [DataW.trod_step] at h ⊢
    unfold DataW.trodStep at h ⊢
    rw [ht] at h ⊢
    split at h <;> (try (simp_all; done))
    · rename_i e' a len cap hu
      cases hu
      simp only [if_true] at h ⊢
      split at h <;> (try (cases h; done))
      rename_i hcond
      rw [if_pos hcond]
      obtain ⟨elems, h1, h2⟩ := Option.bind_eq_some_iff.1 h
      obtain ⟨rest, h3, h4⟩ := Option.map_eq_some_iff.1 h2
      have elem : ∀ i y, ((w.cells? base (a.add (i * P.cellsOf e)) (P.cellsOf e)).bind (DataW.trod enc P w base (fun _ => true) held n e)) = some y → ((w'.cells? base (a.add (i * P.cellsOf e)) (P.cellsOf e)).bind (DataW.trod enc P w' base (fun b => decide (b < w.heap.size)) held n e)) = some y := fun i y hy => by
        obtain ⟨cs', g1, g2⟩ := Option.bind_eq_some_iff.1 hy
        have hblk := World.cells?_block g1 hc
        rw [World.cells?_carry g1 fun p hp => same p (by obtain ⟨j, _, rfl⟩ := MemPlace.mem_row.1 hp; exact hblk)]
        exact he n _ _ g2
      rw [mapM_carry h1 fun i y _ _ e => elem i y e]
      simp only [Option.bind_some]
      have h3' := mapM_carry h3 fun j y _ _ e => elem (len + j) y e
      cases hsp : decide (a.block < w.heap.size) with
      | true => simp only [if_true, h3', Option.map_some, h4]
      | false =>
        have hr : rest = [] := by
          cases rest with
          | nil => rfl
          | cons y l =>
            exfalso
            subst h4
            have hm : MemPlace.cell a.block (a.off + 0) ∈ MemPlace.row a ((elems.length + (y :: l).length) * P.cellsOf e) := by
              refine MemPlace.mem_row.2 ⟨0, ?_, rfl⟩
              have : 0 < elems.length + (y :: l).length := by simp only [List.length_cons]; omega
              exact Nat.mul_pos this hc
            have := hlt _ (List.mem_append_left _ hm)
            simp only [MemPlace.block] at this
            have h5 := of_decide_eq_false hsp
            omega
        subst hr
        simp only [Bool.false_eq_true, if_false, Option.map_some, h4]
theorem trodAll_far : ∀ {ts : List TypeId} {vs : List Value} {ds : List (DataW H)} {ps : List MemPlace}, (∀ t ∈ ts, Far enc P w w' base held t) →
    DataW.TrodAll enc P w base (fun _ => true) held ts vs ds ps → DataW.TrodAll enc P w' base (fun b => decide (b < w.heap.size)) held ts vs ds ps
  | [], [], [], ps, _, h => h
  | t :: ts, v :: vs, d :: ds, ps, hf, ⟨p, q, ⟨n, h1⟩, h2, e⟩ => ⟨p, q, ⟨n, hf t (by simp) n _ _ h1⟩, trodAll_far (fun t ht => hf t (by simp [ht])) h2, e⟩
  | [], _ :: _, _, _, _, h => h.elim
  | [], [], _ :: _, _, _, h => h.elim
  | _ :: _, [], _, _, _, h => h.elim
  | _ :: _, _ :: _, [], _, _, h => h.elim
end
end Go.Sl
