/-
  A part of the proof: contracts of functions of the program, over the abstract machine.
-/
import Derived.Test.YtnhfopfmgodllaaTopA
import Derived.Test.YtnhfopfmgodllaaF1
import Derived.Test.YtnhfopfmgodllaaAbTop
noncomputable section
namespace Go.Sl
open Go Go.Ab
set_option linter.unusedSectionVars false
set_option linter.unusedVariables false
theorem getD_lt' {α : Type} {l : List α} {i : Nat} {a : α} (h : i < l.length) : l.getD i a = l[i] := by simp [h]
theorem flat_one' {α : Type} {f : α → AV} (l : List α) : (l.flatMap fun x => [f x]) = l.map f := by
  induction l with
  | nil => rfl
  | cons a l ih => simp [ih]
theorem u8_rng {a : Int} (h : (Lit.int .u8 a).wf = true) : 0 ≤ a ∧ a ≤ 255 := by
  have e0 : IntKind.u8.min = 0 := rfl
  have e1 : IntKind.u8.max = 255 := rfl
  simp [Lit.wf, e0, e1] at h
  exact h
section
variable [Inhabited Unknowns]
/-- All that is known is only read. -/
structure RO (μ : Mu) (S : St) (w : World) : Prop where
  rel : Rel μ S w
  ro : ∀ b o, S.heap.get b = some o → o.ro = true
theorem RO.nil (w : World) : RO Mu0 St0 w := ⟨rel0 w, fun b o h => by simp [St0] at h⟩
/-- More is known. -/
structure More (μ : Mu) (S : St) (μ' : Mu) (S' : St) : Prop where
  le : μ.le μ'
  heap : ∀ b o, S.heap.get b = some o → S'.heap.get b = some o
theorem More.refl (μ : Mu) (S : St) : More μ S μ S := ⟨Mu.le_refl _, fun _ _ h => h⟩
theorem More.trans {μ μ' μ'' : Mu} {S S' S'' : St} (h : More μ S μ' S') (k : More μ' S' μ'' S'') : More μ S μ'' S'' := ⟨Mu.le_trans h.le k.le, fun b o e => k.heap b o (h.heap b o e)⟩
theorem RO.loc {μ : Mu} {S : St} {w : World} (h : RO μ S w) (L : Ab.Loc) (hb : L.blk < w.heap.size) : ∃ μ' S', RO μ' S' w ∧ More μ S μ' S' ∧ μ' S.next = some L := by
  have hn : μ S.next = none := by
    cases e : μ S.next with
    | none => rfl
    | some L' => have := (h.rel.dom _ _ e).1; omega
  refine ⟨fun b => if b = S.next then some L else μ b, ⟨S.next + 1, S.heap⟩, ⟨⟨fun b L' e => ?_, fun b o L' e e' => ?_, fun b b' o o' L1 L2 e e' _ _ _ _ => ⟨h.ro b o e, h.ro b' o' e'⟩, fun b o e => ?_⟩, h.ro⟩, ⟨fun b L' e => ?_, fun b o e => e⟩, by simp⟩
  · replace e : (if b = S.next then some L else μ b) = some L' := e
    split at e
    · cases e; rename_i hx; exact ⟨by simp only; omega, hb⟩
    · have := h.rel.dom b L' e; exact ⟨by simp only; omega, this.2⟩
  · have hlt := h.rel.fresh b o e
    have hx : b ≠ S.next := by omega
    simp only [hx, if_false] at e'
    obtain ⟨O, g1, g2⟩ := h.rel.obj b o L' e e'
    refine ⟨O, g1, g2.mono fun b2 L2 e2 => ?_⟩
    have hx2 : b2 ≠ S.next := fun hh => by subst hh; rw [hn] at e2; cases e2
    simp only [hx2, if_false]; exact e2
  · have := h.rel.fresh b o e; simp only; omega
  · have hx : b ≠ S.next := fun hh => by subst hh; rw [hn] at e; cases e
    simp only [hx, if_false]; exact e
theorem RO.add {μ : Mu} {S : St} {w : World} (h : RO μ S w) (L : Ab.Loc) (o : AObj) (ho : o.ro = true) (hb : L.blk < w.heap.size) {O : Obj} (hO : w.heap[L.blk]? = some O) (hobj : ObjR μ L o O) : ∃ μ' S', RO μ' S' w ∧ More μ S μ' S' ∧ μ' S.next = some L ∧ S'.heap.get S.next = some o := by
  have hn : μ S.next = none := by
    cases e : μ S.next with
    | none => rfl
    | some L' => have := (h.rel.dom _ _ e).1; omega
  have hle : Mu.le μ (fun b => if b = S.next then some L else μ b) := fun b L' e => by
    have hx : b ≠ S.next := fun hh => by subst hh; rw [hn] at e; cases e
    simp only [hx, if_false]; exact e
  have hget : ∀ b o', (S.heap.put S.next (some o)).get b = some o' → (b = S.next ∧ o' = o) ∨ (b ≠ S.next ∧ S.heap.get b = some o') := fun b o' e => by
    rw [Tr.get_put] at e
    split at e
    · rename_i hx; cases e; exact .inl ⟨hx, rfl⟩
    · rename_i hx; exact .inr ⟨hx, e⟩
  have hro : ∀ b o', (S.heap.put S.next (some o)).get b = some o' → o'.ro = true := fun b o' e => by
    rcases hget b o' e with ⟨_, rfl⟩ | ⟨_, e'⟩
    · exact ho
    · exact h.ro b o' e'
  refine ⟨fun b => if b = S.next then some L else μ b, ⟨S.next + 1, S.heap.put S.next (some o)⟩, ⟨⟨fun b L' e => ?_, fun b o' L' e e' => ?_, fun b b' o1 o2 L1 L2 e e' _ _ _ _ => ⟨hro b o1 e, hro b' o2 e'⟩, fun b o' e => ?_⟩, hro⟩, ⟨hle, fun b o' e => ?_⟩, by simp, by simp [Tr.get_put]⟩
  · replace e : (if b = S.next then some L else μ b) = some L' := e
    split at e
    · cases e; rename_i hx; exact ⟨by simp only; omega, hb⟩
    · have := h.rel.dom b L' e; exact ⟨by simp only; omega, this.2⟩
  · rcases hget b o' e with ⟨hx, rfl⟩ | ⟨hx, e2⟩
    · subst hx
      simp only [if_true, Option.some.injEq] at e'
      subst e'
      exact ⟨O, hO, hobj.mono hle⟩
    · simp only [hx, if_false] at e'
      obtain ⟨O', g1, g2⟩ := h.rel.obj b o' L' e2 e'
      exact ⟨O', g1, g2.mono hle⟩
  · rcases hget b o' e with ⟨hx, _⟩ | ⟨hx, e2⟩
    · simp only; omega
    · have := h.rel.fresh b o' e2; simp only; omega
  · have := h.rel.fresh b o' e
    rw [Tr.get_put, if_neg (by omega)]; exact e
theorem RO.row {μ : Mu} {S : St} {w : World} (h : RO μ S w) {a : Addr} {c : List AV} (es : Nat) (hpos : 0 < c.length) (hcell : ∀ j (hj : j < c.length), ∃ u, w.cell? (a.add j) = some u ∧ VR μ c[j] u) (hs : c.all scal = true) :
    a.spot = none ∧ ∃ μ' S' b, RO μ' S' w ∧ More μ S μ' S' ∧ (∃ L, μ' b = some L ∧ L.blk = a.block ∧ L.off = a.off) ∧ S'.heap.get b = some (.cells (some es) true c) := by
  obtain ⟨u0, h0, _⟩ := hcell 0 hpos
  have ha0 : a.add 0 = a := by simp [Addr.add]
  rw [ha0] at h0
  have hblk : ∃ C E fz, w.heap[a.block]? = some (.cells C E fz) ∧ a.spot = none := by
    unfold World.cell? at h0
    split at h0
    · rename_i C E fz hh
      refine ⟨C, E, fz, hh, ?_⟩
      cases hsp : a.spot with
      | none => rfl
      | some x => rw [hsp] at h0; simp at h0
    · cases h0
  obtain ⟨C, E, fz, hC, hspot⟩ := hblk
  have hat : ∀ j (hj : j < c.length), ∃ u, C[a.off + j]? = some u ∧ VR μ c[j] u := by
    intro j hj
    obtain ⟨u, h1, h2⟩ := hcell j hj
    refine ⟨u, ?_, h2⟩
    unfold World.cell? at h1
    by_cases hj0 : j = 0
    · subst hj0; rw [ha0, hC, hspot] at h1; simpa using h1
    · simp only [Addr.add, hj0, if_false, hC] at h1; simpa using h1
  have hsz : a.off + c.length ≤ C.size := by
    obtain ⟨u, h1, _⟩ := hat (c.length - 1) (by omega)
    have := (Array.getElem?_eq_some_iff.1 h1).1
    omega
  have hlt : a.block < w.heap.size := by
    rcases Nat.lt_or_ge a.block w.heap.size with x | x
    · exact x
    · rw [Array.getElem?_eq_none x] at hC; cases hC
  have hobj : ObjR μ ⟨a.block, a.off, C.size, es⟩ (.cells (some es) true c) (.cells C E fz) := by
    refine .cells rfl hsz (VRs.mk ?_ fun i v u e1 e2 => ?_) hs (fun hh => by cases hh) (fun hh => by cases hh) (fun e hh => by cases hh; rfl)
    · simp; omega
    · have hi : i < c.length := (List.getElem?_eq_some_iff.1 e1).1
      obtain ⟨u', h1, h2⟩ := hat i hi
      rw [List.getElem?_take_of_lt hi, List.getElem?_drop, Array.getElem?_toList, h1] at e2
      cases e2
      rw [List.getElem?_eq_getElem hi] at e1
      cases e1
      exact h2
  obtain ⟨μ', S', r, m, g1, g2⟩ := h.add ⟨a.block, a.off, C.size, es⟩ _ rfl hlt hC hobj
  exact ⟨hspot, μ', S', S.next, r, m, ⟨_, g1, rfl, rfl⟩, g2⟩

/-- A slice of bytes that came in. -/
theorem open_bytes {H : Type} {enc : TypeId × Value → H} {P : Program} {W : World} {base : Nat} {t e : TypeId} {v : Value} {d : DataW H} {ps : List MemPlace} (ht : P.underlying t = some (.slice e)) (he : P.underlying e = some (.int .u8)) (hc : P.cellsOf e = 1)
    (hv : Value.okWide P W .any base t v) (hd : DataW.Trod enc P W 0 (fun _ => true) true t v d ps) {μ : Mu} {S : St} (hR : RO μ S W) :
    ∃ μ' S' av ts, RO μ' S' W ∧ More μ S μ' S' ∧ VR μ' av v ∧ SlL (Gr S'.heap.get) 1 byteC av ts ∧ ∀ t ∈ ts, t < 256 := by
  obtain ⟨fuel, hf⟩ := hd
  have hnil : ∀ {G : GB} {av : AV}, NilS av → SlL (Gr G) 1 byteC av [] := fun h => ⟨[], .nil, by simp, by simp, .inl ⟨h, rfl⟩⟩
  unfold Value.okWide at hv
  rw [ht] at hv
  have hv2 : Cell.ok P W .any base t v := by
    unfold Cell.okWide at hv; rw [ht] at hv; cases v <;> first | exact hv | exact hv
  unfold Cell.ok at hv2
  rw [ht] at hv2
  cases v <;> simp only at hv2
  rename_i oa len cap
  rcases Go.ChangeShapes.open_ints ht he hc hf with ⟨h1, _⟩ | ⟨a, len', cap', zs, h1, _, hl, hm, hz, _, hcell, hwf⟩
  · simp only [Value.cells] at h1
    cases h1
    exact ⟨μ, S, .nils, [], hR, More.refl _ _, .nils, hnil (.inl rfl), by simp⟩
  · simp only [Value.cells] at h1
    cases h1
    simp only [if_true] at hz
    by_cases h0 : len = 0
    · subst h0
      obtain ⟨_, _, _, hsp, row, cells, hsh, _⟩ := hv2
      have hlt : a.block < W.heap.size := by
        unfold World.shape? at hsh
        split at hsh
        · rename_i hh
          rcases Nat.lt_or_ge a.block W.heap.size with x | x
          · exact x
          · rw [Array.getElem?_eq_none x] at hh; cases hh
        · cases hsh
      obtain ⟨μ', S', r, m, g⟩ := hR.loc ⟨a.block, a.off, 0, 1⟩ hlt
      refine ⟨μ', S', .slc S.next 0 0 (some cap), [], r, m, ?_, hnil (.inr ⟨_, _, _, rfl⟩), by simp⟩
      have := VR.slcK (μ := μ') (b := S.next) (o := 0) (len := 0) (cap := cap) g (Nat.zero_le _)
      obtain ⟨ab, ao, asp⟩ := a
      simp only at hsp
      subst hsp
      exact this
    · obtain ⟨hsp, μ', S', b, r, m, ⟨L, g1, g2, g3⟩, g4⟩ := hR.row (a := a) (c := (zs.take len).map (AV.int .u8)) 1 (by simp; omega) (fun j hj => by
        have hj' : j < zs.length := by simp at hj; omega
        refine ⟨_, hcell j hj', ?_⟩
        simp only [List.getElem_map, List.getElem_take]
        rw [getD_lt' hj']
        exact .int _ _) (by rw [List.all_eq_true]; intro x hx; obtain ⟨z, _, rfl⟩ := List.mem_map.1 hx; rfl)
      have hzl : (zs.take len).length = len := by simp; omega
      refine ⟨μ', S', .slc b 0 len (some cap), (zs.take len).map Int.toNat, r, m, ?_, ?_, ?_⟩
      · have := VR.slcK (μ := μ') (b := b) (o := 0) (len := len) (cap := cap) g1 hl
        obtain ⟨ab, ao, asp⟩ := a
        simp only at hsp g2 g3
        subst hsp
        rw [g2, g3] at this
        exact this
      · refine SlL.of (f := fun n : Nat => [AV.int .u8 (n : Int)]) ⟨?_, .inr ⟨b, 0, some cap, some 1, true, _, ?_, g4, ?_⟩⟩ (fun _ _ => rfl) (fun _ => rfl)
        · rw [flat_one']; simp
        · rw [List.length_map, hzl]
        · rw [flat_one', List.map_map]
          have hmm : (zs.take len).map ((fun n : Nat => AV.int .u8 (n : Int)) ∘ Int.toNat) = (zs.take len).map (AV.int .u8) := by
            refine List.map_congr_left fun z hz' => ?_
            have := u8_rng (hwf z (List.mem_of_mem_take hz'))
            simp only [Function.comp]
            congr 1; omega
          rw [hmm, List.length_map, hzl, Nat.mul_one]
          have := slice?_all ((zs.take len).map (AV.int .u8))
          rwa [List.length_map, hzl] at this
      · intro x hx
        obtain ⟨z, hz', rfl⟩ := List.mem_map.1 hx
        have := u8_rng (hwf z (List.mem_of_mem_take hz'))
        omega
end
end Go.Sl
