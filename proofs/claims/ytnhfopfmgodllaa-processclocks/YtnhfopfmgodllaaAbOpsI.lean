/-
  THE OPERATIONS, FURTHER: strings out of bytes; clear.
-/
import Derived.Test.YtnhfopfmgodllaaAbOpsG
namespace Go.Ab
open Go
set_option linter.unusedSectionVars false
variable [Inhabited Unknowns]
variable {P : Program} {gl : List Nat} {o : Oper}

theorem bytes_loop {μ : Mu} {w : World} : ∀ {l : List AV} {us : List Value} {s : List Nat} (acc : ByteArray), VRs μ l us → bytesOf l = some s →
    ∃ r : ByteArray, (forIn us acc (fun c (s : ByteArray) => (match c with | .int .u8 n => (do pure PUnit.unit; pure (ForInStep.yield (s.push (UInt8.ofNat n.toNat)))) | _ => stuck "bytesToString: byte expected" : Sem (ForInStep ByteArray)))).run P w = .ok r w ∧ r.data.toList.map UInt8.toNat = acc.data.toList.map UInt8.toNat ++ s
  | [], us, s, acc, hv, h => by
    cases hv
    cases h
    exact ⟨acc, by simp, by simp⟩
  | v :: l, us, s, acc, hv, h => by
    cases hv with
    | cons h1 h2 =>
      unfold bytesOf at h
      split at h
      · rename_i heq; cases heq
      · rename_i n l' heq
        cases heq
        split at h <;> (try (cases h; done))
        rename_i r hr
        split at h <;> (try (cases h; done))
        rename_i hb
        cases h
        cases h1
        obtain ⟨r', k1, k2⟩ := bytes_loop (acc.push (UInt8.ofNat n.toNat)) h2 hr
        refine ⟨r', ?_, ?_⟩
        · simp only [List.forIn_cons, Sem.run_bind, Sem.run_pure, Result.andThen_ok]
          exact k1
        · rw [k2]
          have : n.toNat < 256 := by omega
          simp [ByteArray.push, Nat.mod_eq_of_lt this]
      · cases h

theorem sim_b2s {s t : TypeId} {x : X} {y : Operand} (ho : o.op = .convert s t y) (hx : opdOk gl y x = true) (hs : isBytes P s = true) (ht : isStr P t = true) : OpR P gl o (do_b2s x) := by
  intro μ S w fr a N v S' hg hR hf h
  unfold do_b2s at h
  split at h <;> (try (cases h; done))
  rename_i v0 hv
  obtain ⟨e, hu, he⟩ := isBytes_spec hs
  have hu2 := isStr_spec ht
  split at h
  · cases h
  rotate_left
  · cases h
  rename_i c hns hc
  split at h <;> (try (cases h; done))
  rename_i bs hbs
  obtain ⟨rfl, rfl⟩ : AV.str bs = v ∧ S = S' := by simpa using h
  have done : ∀ (base : Addr) (len cc : Nat) (us : List Value), a.eval y = .slice (some base) len cc → (loadCells base len).run P w = .ok us.toArray w → VRs μ c us → Came μ S w ((execOp a.eval o).run P w) (.str bs) S := fun base len cc us e1 e2 e3 => by
    obtain ⟨r, k1, k2⟩ := bytes_loop (P := P) (w := w) ByteArray.empty e3 hbs
    refine .pure hR (u := .string r) ?_ (.str (by rw [k2]; rfl))
    simp only [execOp, ho, e1, convert, r_underlying hu, r_underlying hu2, r_underlying he, Sem.run_bind, Result.andThen_ok, Conv.bytesToString, e2, List.forIn_toArray]
    have k1' : (forIn us ByteArray.empty (fun c (s : ByteArray) => (match c with | .int .u8 n => (do pure PUnit.unit; pure (ForInStep.yield (s.push (UInt8.ofNat n.toNat)))) | _ => stuck "bytesToString: byte expected" : Sem (ForInStep ByteArray)))).run P w = .ok r w := k1
    first
      | rw [show (forIn us ByteArray.empty _ : Sem ByteArray).run P w = .ok r w from k1']; simp
      | (erw [k1']; simp)
  unfold sliceCells at hc
  split at hc
  · cases hc
    have e1 := evX_nils hx hg hf hv
    cases hbs
    refine .pure hR (u := .string .empty) ?_ (.str rfl)
    simp [execOp, ho, e1, convert, r_underlying hu, r_underlying hu2, r_underlying he, Conv.bytesToString]
  · cases hc
    obtain ⟨L, co, cc, _, e1, _⟩ := evX_slc hx hg hf hv
    exact done _ 0 cc [] e1 (by simpa using run_loadCells_list (P := P) w ⟨L.blk, co, none⟩ [] (fun j v e => by simp at e)) .nil
  · rename_i b off len cap hlen
    split at hc <;> (try (cases hc; done))
    rename_i c0 hc0
    obtain ⟨L, co, cc, hL, e1, _, hco, _⟩ := evX_slc hx hg hf hv
    obtain ⟨us, k1, k2, _⟩ := load_cells (P := P) hR hc0 hL hc
    have hne : len ≠ 0 := fun x => hlen (by rw [x])
    rw [hco hne] at e1
    rw [Nat.mul_one] at k1
    exact done _ len cc us e1 k1 k2
  · rename_i l; exact absurd rfl (hns l)
  · cases hc

def clearOk (P : Program) (t : TypeId) (es : Nat) (zero : List AV) : Bool := match P.underlying t with
  | some (.slice e) => zeroOk P e zero && zero.length == es
  | _ => false

theorem sim_clear {es : Nat} {zero : List AV} {x : X} {c : Call} {t : TypeId} {y : Operand} (ho : o.op = .call c) (hc : c.callee = .builtin .clear) (ha : c.args = #[y]) (ht : c.argTypes[0]? = some t) (hs : clearOk P t es zero = true) (hx : opdOk gl y x = true) : OpR P gl o (do_clear es zero x) := by
  intro μ S w fr a N v S' hg hR hf h
  unfold clearOk at hs
  split at hs <;> try (cases hs; done)
  rename_i e hu
  simp only [Bool.and_eq_true, beq_iff_eq] at hs
  obtain ⟨zz, z1, z2⟩ := zeroOk_spec hs.1
  obtain ⟨z3, z4⟩ := cellsOk_vrs z2 μ
  unfold do_clear at h
  split at h
  · rename_i hv
    obtain ⟨rfl, rfl⟩ : AV.tup [] = v ∧ S = S' := by simpa using h
    have he := evX_nils hx hg hf hv
    exact .pure hR (u := .tuple #[]) (by simp [execOp, ho, resolve, hc, ha, invoke, builtin, Builtin.clear_, ht, he, r_underlying hu]) (.tup .nil)
  · rename_i hv
    obtain ⟨rfl, rfl⟩ : AV.tup [] = v ∧ S = S' := by simpa using h
    obtain ⟨L, co, cc, hL, he, _⟩ := evX_slc hx hg hf hv
    exact .pure hR (u := .tuple #[]) (by simp [execOp, ho, resolve, hc, ha, invoke, builtin, Builtin.clear_, ht, he, r_underlying hu]) (.tup .nil)
  · rename_i b off len cap hlen hv
    split at h
    rotate_left
    · cases h
    split at h <;> (try (cases h; done))
    rename_i S1 hst
    obtain ⟨rfl, rfl⟩ : AV.tup [] = v ∧ S1 = S' := by simpa using h
    obtain ⟨L, co, cc, hL, he, _, hco, _⟩ := evX_slc hx hg hf hv
    have hne : len ≠ 0 := fun x => hlen (by rw [x])
    rw [hco hne] at he
    have hz : VRs μ (repl zero len) (Builtin.zeroCells zz.cells len).toList := by
      have := repl_vrs' z3 len es hs.2
      have hZ : zz.cells.size = es := by have := z3.length; simp at this; omega
      unfold Builtin.zeroCells
      rwa [hZ]  at this ⊢
    obtain ⟨w', k1, k2, k3⟩ := store_cells (P := P) hR hst hL hz (repl_scal z4 len)
    refine ⟨μ, w', .tuple #[], .inl ?_, .tup .nil, k2, k3⟩
    obtain ⟨n, rfl⟩ : ∃ n, len = n + 1 := ⟨len - 1, by omega⟩
    simp [execOp, ho, resolve, hc, ha, invoke, builtin, Builtin.clear_, ht, he, r_underlying hu, z1, k1]
  · cases h
end Go.Ab
