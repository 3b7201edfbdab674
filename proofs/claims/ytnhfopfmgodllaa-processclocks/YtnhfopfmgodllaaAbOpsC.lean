/-
  THE OPERATIONS, THIRD PART: slices that are made, append.
-/
import Derived.Test.YtnhfopfmgodllaaAbOpsB
namespace Go.Ab
open Go
set_option linter.unusedSectionVars false
variable [Inhabited Unknowns]
variable {P : Program} {gl : List Nat} {o : Oper}

theorem repl_length (z : List AV) : ∀ n, (repl z n).length = n * z.length
  | 0 => by simp [repl]
  | n + 1 => by simp [repl, repl_length z n, Nat.add_mul, Nat.add_comm]
theorem repl_scal {z : List AV} (h : z.all scal = true) : ∀ n, (repl z n).all scal = true
  | 0 => rfl
  | n + 1 => by simp only [repl, List.all_append, h, repl_scal h n, Bool.and_self]
theorem repl_get (z : List AV) : ∀ (n i : Nat), i < n * z.length → (repl z n)[i]? = z[i % z.length]?
  | 0, i, h => by simp at h
  | n + 1, i, h => by
    have hz : 0 < z.length := Nat.pos_of_ne_zero fun e => by simp [e] at h
    rw [repl]
    by_cases hi : i < z.length
    · rw [List.getElem?_append_left hi, Nat.mod_eq_of_lt hi]
    · rw [List.getElem?_append_right (by omega), repl_get z n (i - z.length) (by rw [Nat.add_mul] at h; omega)]
      congr 1
      conv => rhs; rw [show i = (i - z.length) + z.length by omega, Nat.add_mod_right]

theorem repl_vrs {μ : Mu} {z : List AV} {Z : Array Value} (hz : VRs μ z Z.toList) (n : Nat) : VRs μ (repl z n) ((Array.range (n * Z.size)).map (Z[· % Z.size]!)).toList := by
  have hl := hz.length
  simp at hl
  refine VRs.mk (by simp [repl_length, hl]) fun i v u hv hu => ?_
  have hi : i < n * z.length := by
    rcases Nat.lt_or_ge i (n * z.length) with h | h
    · exact h
    · rw [List.getElem?_eq_none (by rw [repl_length]; exact h)] at hv; cases hv
  rw [repl_get z n i hi] at hv
  obtain ⟨u', e1, e2⟩ := hz.get _ _ hv
  have hz0 : 0 < z.length := Nat.pos_of_ne_zero fun e => by simp [e] at hi
  simp only [Array.toList_map, List.getElem?_map, Array.getElem?_toList, Array.getElem?_range, hl, hi, if_true, Option.map_some] at hu
  obtain rfl := Option.some.inj hu
  rw [Array.getElem?_toList] at e1
  rw [getElem!_def, e1]
  exact e2

theorem repl_vrs' {μ : Mu} {z : List AV} {Z : Array Value} (hz : VRs μ z Z.toList) (n : Nat) (es : Nat) (he : z.length = es) : VRs μ (repl z n) ((Array.range (n * es)).map (Z[· % Z.size]!)).toList := by
  have hl := hz.length
  simp at hl
  have e : n * es = n * Z.size := by rw [hl, he]
  rw [e]; exact repl_vrs hz n

def bsliceOk (P : Program) (gl : List Nat) (t : TypeId) (len : Nat) (parts : List (Nat × Operand)) (cells : List AV) (qs : List (Nat × Nat × X)) : Bool :=
  match P.underlying t with
  | some (.slice e) => match P.info? e with
    | some i => match i.zero with
      | some z => cells.length == len * i.size && i.size == z.cells.size && cellsOk ((Array.range (len * i.size)).map (z.cells[· % z.cells.size]!)).toList cells && decide (len * i.size ≤ 2 ^ 24) && partsOk gl (fun j => some (j * i.size, i.size)) parts qs
      | none => false
    | none => false
  | _ => false

theorem sim_bslice {cells : List AV} {qs : List (Nat × Nat × X)} {t : TypeId} {len : Nat} {parts : Array (Nat × Operand)} (ho : o.op = .buildSlice t len parts) (hb : bsliceOk P gl t len parts.toList cells qs = true) : OpR P gl o (do_bslice len cells qs) := by
  intro μ S w fr a N v S' hg hR hf h
  unfold do_bslice at h
  split at h
  rotate_left
  · cases h
  rename_i vs hvs
  split at h
  rotate_left
  · cases h
  rename_i c hfl
  obtain ⟨rfl, rfl⟩ : AV.slc S.next 0 len (some len) = v ∧ new S (.cells none false c) = S' := by simpa using h
  unfold bsliceOk at hb
  split at hb <;> try (cases hb; done)
  rename_i e hu
  split at hb <;> try (cases hb; done)
  rename_i i hi
  split at hb <;> try (cases hb; done)
  rename_i z hz
  simp only [Bool.and_eq_true, beq_iff_eq, decide_eq_true_eq] at hb
  obtain ⟨⟨⟨⟨b1, b2⟩, b3⟩, b4⟩, b5⟩ := hb
  obtain ⟨h3, h4⟩ := cellsOk_vrs b3 μ
  obtain ⟨C', k1, k2, k3, k4⟩ := fill_run hg hf _ parts.toList qs vs cells c _ b5 hvs hfl h3 h4
  obtain ⟨μ', m1, m2, m3⟩ := hR.allocCells e k2 k3
  refine ⟨μ', _, .slice (some ⟨w.heap.size, 0, none⟩) len len, .inl ?_, by simpa using VR.slcK (o := 0) m1 (Nat.le_refl len), m2, m3⟩
  have hlim : ¬ (len * i.size > 2 ^ 24) := by omega
  have key : ∀ zz : Array Value, (if len * i.size = 0 then zz = #[] else zz = z.cells) → Instr.fill (fun j => some (j * i.size, i.size)) ((Array.range (len * i.size)).map (zz[· % zz.size]!)) (parts.map fun x => (x.1, a.eval x.2)).toList = some C' := fun zz hzz => by
    by_cases e0 : len * i.size = 0
    · rw [e0] at k1 ⊢; have r0 : Array.range 0 = #[] := rfl; rw [r0] at k1 ⊢; simpa using k1
    · rw [if_neg e0] at hzz; subst hzz; simpa using k1
  simp only [execOp, ho, Sem.run_bind, Instr.buildSlice, r_underlying hu, Result.andThen_ok, r_sizeOf hi, Sem.run_ite, hlim, if_false]
  by_cases e0 : len * i.size = 0
  · simp only [e0, if_true, Sem.run_pure, Result.andThen_ok]
    rw [show (Instr.fill _ _ _) = some C' from by simpa [e0] using key #[] (by rw [if_pos e0])]
    simp [newRow]
  · simp only [e0, if_false, r_zero hi hz, Result.andThen_ok, Sem.run_pure]
    rw [show (Instr.fill _ _ _) = some C' from key z.cells (by rw [if_neg e0])]
    simp [newRow]

/-! ### make -/
def mkOk (P : Program) (t : TypeId) (es bytes : Nat) (zero : List AV) : Bool := match P.underlying t with
  | some (.slice e) => match P.info? e with
    | some i => i.size == es && i.bytes == bytes && zeroOk P e zero
    | none => false
  | _ => false

theorem wrap_small {m : Int} (h0 : 0 ≤ m) (h1 : m < 2 ^ 62) : IntKind.i64.wrap m = m := by
  unfold IntKind.wrap IntKind.bits IntKind.signed
  simp at *
  omega

theorem sim_mkSlice {es bytes : Nat} {zero : List AV} {l c : X} {t : TypeId} {y z : Operand} (ho : o.op = .makeSlice t y z) (hl : opdOk gl y l = true) (hc : opdOk gl z c = true) (hb : mkOk P t es bytes zero = true) : OpR P gl o (do_mkSlice es bytes zero l c) := by
  intro μ S w fr a N v S' hg hR hf h
  unfold do_mkSlice at h
  split at h
  rotate_left
  · cases h
  rename_i k n j m hv hw
  split at h
  rotate_left
  · cases h
  rename_i hcond
  obtain ⟨c1, c2, c3, c4, c5⟩ := hcond
  obtain ⟨rfl, rfl⟩ : AV.slc S.next 0 n.toNat (some m.toNat) = v ∧ new S (.cells none false (repl zero m.toNat)) = S' := by simpa using h
  have e1 := evX_int hl hg hf hv
  have e2 := evX_int hc hg hf hw
  unfold mkOk at hb
  split at hb <;> try (cases hb; done)
  rename_i e hu
  split at hb <;> try (cases hb; done)
  rename_i i hi
  simp only [Bool.and_eq_true, beq_iff_eq] at hb
  obtain ⟨⟨b1, b2⟩, b3⟩ := hb
  obtain ⟨zz, z1, z2⟩ := zeroOk_spec b3
  obtain ⟨z3, z4⟩ := cellsOk_vrs z2 μ
  have hcells := repl_vrs' z3 m.toNat es c5
  obtain ⟨μ', m1, m2, m3⟩ := hR.allocCells e hcells (repl_scal z4 m.toNat)
  refine ⟨μ', _, .slice (some ⟨w.heap.size, 0, none⟩) n.toNat m.toNat, .inl ?_, by simpa using VR.slcK (o := 0) m1 (show n.toNat ≤ m.toNat by omega), m2, m3⟩
  have w1 := wrap_small (m := n) c1 (by omega)
  have w2 := wrap_small (m := m) (by omega) c4
  have t1 : ¬ (m < 0 ∨ (2 : Int) ^ 48 < (i.bytes : Int) * m) := by
    rw [b2, Int.mul_comm]; intro hh; rcases hh with hh | hh
    · omega
    · have : (2 : Int) ^ 47 < (2 : Int) ^ 48 := by decide
      omega
  have hmn : ¬ (m < n) := by omega
  have hn0 : ¬ (n < 0) := by omega
  have hZ : zz.cells.size = es := by have := z3.length; simp at this; omega
  simp only [execOp, ho, e1, e2, Instr.makeSlice, Sem.run_bind, r_underlying hu, asInt, asIntOf, Sem.run_pure, Result.andThen_ok, r_typeInfo hi, w1, w2, Sem.run_ite]
  rw [if_neg (by simp only [Bool.or_eq_true, decide_eq_true_eq, gt_iff_lt, not_or]; simp only [not_or] at t1; exact ⟨⟨t1, hn0⟩, hmn⟩)]
  simp only [run_askRoom, Result.andThen_ok, r_sizeOf hi, b1]
  have r0 : Array.range 0 = #[] := rfl
  by_cases e0 : m.toNat * es = 0
  · simp only [e0, if_true, Sem.run_pure, Result.andThen_ok, newRow, Sem.run_bind, run_newObj, r0]
    simp
  · simp only [e0, if_false, Sem.run_bind, z1, Sem.run_pure, Result.andThen_ok, newRow, run_newObj]
    simp
end Go.Ab
