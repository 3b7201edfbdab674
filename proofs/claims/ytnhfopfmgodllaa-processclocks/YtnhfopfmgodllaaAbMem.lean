/-
  MEMORY: loads, stores and new blocks of the abstract machine are those of the world.
-/
import Derived.Test.YtnhfopfmgodllaaAbRel
namespace Go.Ab
open Go
set_option linter.unusedSectionVars false
variable [Inhabited Unknowns]

/-! ### Lists -/
theorem splice_get : ∀ {c : List AV} {o : Nat} {l c' : List AV}, splice c o l = some c' → o + l.length ≤ c.length ∧ c'.length = c.length ∧ ∀ i, c'[i]? = if o ≤ i ∧ i < o + l.length then l[i - o]? else c[i]?
  | c, 0, [], c', h => by
    have e : c = c' := by cases c <;> simpa [splice] using h
    subst e; exact ⟨by simp, rfl, fun i => by rw [if_neg (by simp)]⟩
  | x :: c, n + 1, l, c', h => by
    simp only [splice] at h
    cases e : splice c n l with
    | none => rw [e] at h; cases h
    | some d =>
      rw [e] at h
      obtain rfl : x :: d = c' := by simpa using h
      obtain ⟨h1, h2, h3⟩ := splice_get e
      refine ⟨by simp; omega, by simp [h2], fun i => ?_⟩
      cases i with
      | zero => simp
      | succ i =>
        have := h3 i
        by_cases hh : n ≤ i ∧ i < n + l.length
        · rw [if_pos hh] at this; rw [if_pos (by omega), List.getElem?_cons_succ, this]; congr 1; omega
        · rw [if_neg hh] at this; rw [if_neg (by omega), List.getElem?_cons_succ, this, List.getElem?_cons_succ]
  | x :: c, 0, y :: l, c', h => by
    simp only [splice] at h
    cases e : splice c 0 l with
    | none => rw [e] at h; cases h
    | some d =>
      rw [e] at h
      obtain rfl : y :: d = c' := by simpa using h
      obtain ⟨h1, h2, h3⟩ := splice_get e
      refine ⟨by simp at *; omega, by simp [h2], fun i => ?_⟩
      cases i with
      | zero => simp
      | succ i =>
        have := h3 i
        by_cases hh : 0 ≤ i ∧ i < 0 + l.length
        · rw [if_pos hh] at this; rw [if_pos (by simp; omega), List.getElem?_cons_succ, this]; simp
        · rw [if_neg hh] at this; rw [if_neg (by simp at *; omega), List.getElem?_cons_succ, this, List.getElem?_cons_succ]
  | [], 0, y :: l, c', h => by simp [splice] at h
  | [], n + 1, l, c', h => by simp [splice] at h

theorem slice?_get : ∀ {c : List AV} {o n : Nat} {l : List AV}, slice? c o n = some l → o + n ≤ c.length ∧ l = (c.drop o).take n
  | c, 0, n, l, h => by
    have e : (if n ≤ c.length then some (c.take n) else none) = some l := by cases c <;> exact h
    split at e
    · rename_i hn; exact ⟨by omega, by simpa using e.symm⟩
    · cases e
  | [], o + 1, n, l, h => by simp [slice?] at h
  | x :: c, o + 1, n, l, h => by
    obtain ⟨h1, h2⟩ := slice?_get (c := c) (o := o) (n := n) (l := l) h
    exact ⟨by simp; omega, by simpa using h2⟩

/-! ### Cells of a block -/
def lay (C : Array Value) : Nat → List Value → Array Value
  | _, [] => C
  | o, v :: r => lay (C.setIfInBounds o v) (o + 1) r

theorem lay_size : ∀ (r : List Value) (C : Array Value) (o : Nat), (lay C o r).size = C.size
  | [], _, _ => rfl
  | v :: r, C, o => by rw [lay, lay_size r]; simp
theorem lay_get : ∀ (r : List Value) (C : Array Value) (o i : Nat), o + r.length ≤ C.size → (lay C o r)[i]? = if o ≤ i ∧ i < o + r.length then r[i - o]? else C[i]?
  | [], C, o, i, _ => by rw [if_neg (by simp)]; rfl
  | v :: r, C, o, i, h => by
    simp only [List.length_cons] at h
    rw [lay, lay_get r (C.setIfInBounds o v) (o + 1) i (by simp; omega)]
    by_cases hh : o + 1 ≤ i ∧ i < o + 1 + r.length
    · rw [if_pos hh, if_pos (by simp; omega), show i - o = (i - (o + 1)) + 1 by omega, List.getElem?_cons_succ]
    · rw [if_neg hh]
      by_cases e : i = o
      · subst e; rw [if_pos (by simp), Array.getElem?_setIfInBounds_self_of_lt (by omega)]; simp
      · rw [if_neg (by simp; omega), Array.getElem?_setIfInBounds_ne (fun h => e h.symm)]

theorem setCells_heap (b : Nat) : ∀ (vs : List Value) (o : Nat) (w : World) (C : Array Value) (E : TypeId) (fz : Nat × Nat), w.heap[b]? = some (.cells C E fz) →
    (w.setCells b o vs).heap[b]? = some (.cells (lay C o vs) E fz) ∧ (∀ k, k ≠ b → (w.setCells b o vs).heap[k]? = w.heap[k]?) ∧ (w.setCells b o vs).heap.size = w.heap.size ∧ (w.setCells b o vs).os = w.os ∧ (w.setCells b o vs).tape = w.tape ∧ (w.setCells b o vs).output = w.output
  | [], o, w, C, E, fz, h => ⟨h, fun _ _ => rfl, rfl, rfl, rfl, rfl⟩
  | v :: r, o, w, C, E, fz, h => by
    have h1 : (w.setCell ⟨b, o, none⟩ v).heap[b]? = some (.cells (C.setIfInBounds o v) E fz) := by
      simp [World.setCell, Array.getElem?_modify, h]
    obtain ⟨a1, a2, a3, a4, a5, a6⟩ := setCells_heap b r (o + 1) (w.setCell ⟨b, o, none⟩ v) _ E fz h1
    refine ⟨a1, fun k hk => ?_, ?_, a4, a5, a6⟩
    · rw [World.setCells, a2 k hk]; exact RowKit.Below.heap_setCell _ _ _ _ hk
    · rw [World.setCells, a3]; simp [World.setCell]

/-- The cells of an abstract block, in the world. -/
theorem Rel.at {μ : Mu} {S : St} {w : World} (h : Rel μ S w) {b : Nat} {L : Loc} {op : Option Nat} {ro : Bool} {c : List AV} (hb : S.heap.get b = some (.cells op ro c)) (hL : μ b = some L) :
    ∃ C E fz, w.heap[L.blk]? = some (.cells C E fz) ∧ C.size = L.size ∧ L.off + c.length ≤ C.size ∧ VRs μ c ((C.toList.drop L.off).take c.length) ∧ c.all scal = true ∧
      (ro = false → ∀ i, i < C.size → fz.1 ≤ i → fz.2 ≤ i) ∧ (op = none → C.size = L.off + c.length) ∧ (∀ es, op = some es → L.es = es) := by
  obtain ⟨O, hO, hr⟩ := h.obj b _ L hb hL
  cases hr with
  | cells hn hl hc hs hf hk ho => exact ⟨_, _, _, hO, hn, hl, hc, hs, hf, hk, ho⟩

theorem cell_of {w : World} {b : Nat} {C : Array Value} {E : TypeId} {fz : Nat × Nat} (h : w.heap[b]? = some (.cells C E fz)) (o : Nat) : w.cell? ⟨b, o, none⟩ = C[o]? := by simp [World.cell?, h]
theorem frozen_of {w : World} {b : Nat} {C : Array Value} {E : TypeId} {fz : Nat × Nat} (h : w.heap[b]? = some (.cells C E fz)) (o : Nat) : w.frozen? ⟨b, o, none⟩ = (decide (fz.1 ≤ o) && decide (o < fz.2)) := by
  obtain ⟨lo, hi⟩ := fz; simp [World.frozen?, h]

theorem seg_get {C : Array Value} {k n i : Nat} (h : i < n) : ((C.toList.drop k).take n)[i]? = C[k + i]? := by
  rw [List.getElem?_take_of_lt h, List.getElem?_drop, Array.getElem?_toList]

theorem add_at (b o n : Nat) : (⟨b, o, none⟩ : Addr).add n = ⟨b, o + n, none⟩ := by unfold Addr.add; split <;> simp_all

/-- So many cells from a place on. -/
theorem load_cells {P : Program} {μ : Mu} {S : St} {w : World} (h : Rel μ S w) {b o n : Nat} {L : Loc} {c l : List AV} (hb : cellsOf S b = some c) (hL : μ b = some L) (hs : slice? c o n = some l) :
    ∃ us : List Value, (loadCells ⟨L.blk, L.off + o, none⟩ n).run P w = .ok us.toArray w ∧ VRs μ l us ∧ l.all scal = true := by
  unfold cellsOf at hb
  split at hb <;> simp only [Option.some.injEq, reduceCtorEq] at hb
  rename_i op ro c' hb'
  subst hb
  obtain ⟨C, E, fz, hC, hn, hl, hc, hsc, hf, hk, ho⟩ := h.at hb' hL
  obtain ⟨h1, rfl⟩ := slice?_get hs
  have hlen : ((C.toList.drop (L.off + o)).take n).length = n := by simp; omega
  refine ⟨(C.toList.drop (L.off + o)).take n, ?_, ?_, ?_⟩
  · have := run_loadCells_list (P := P) w ⟨L.blk, L.off + o, none⟩ ((C.toList.drop (L.off + o)).take n) (fun j v e => by
      rw [add_at, cell_of hC]
      have hj : j < n := by
        rcases Nat.lt_or_ge j n with hj | hj
        · exact hj
        · rw [List.getElem?_eq_none (by omega)] at e; cases e
      rwa [seg_get hj] at e)
    rwa [hlen] at this
  · have h2 := (hc.drop o).take n
    have e : List.take n (List.drop o (List.take c'.length (List.drop L.off C.toList))) = (C.toList.drop (L.off + o)).take n := by
      apply List.ext_getElem?
      intro i
      by_cases hi : i < n
      · rw [List.getElem?_take_of_lt hi, List.getElem?_drop, List.getElem?_take_of_lt (by omega), List.getElem?_drop, List.getElem?_take_of_lt hi, List.getElem?_drop]
        congr 1; omega
      · rw [List.getElem?_eq_none (by simp; omega), List.getElem?_eq_none (by simp; omega)]
    rwa [e] at h2
  · rw [List.all_eq_true] at hsc ⊢
    exact fun x hx => hsc x (List.mem_of_mem_drop (List.mem_of_mem_take hx))

theorem load_one {μ : Mu} {S : St} {w : World} (h : Rel μ S w) {b o : Nat} {L : Loc} {c : List AV} {v : AV} (hb : cellsOf S b = some c) (hL : μ b = some L) (hv : c[o]? = some v) :
    ∃ u, w.cell? ⟨L.blk, L.off + o, none⟩ = some u ∧ VR μ v u := by
  unfold cellsOf at hb
  split at hb <;> simp only [Option.some.injEq, reduceCtorEq] at hb
  rename_i op ro c' hb'
  subst hb
  obtain ⟨C, E, fz, hC, hn, hl, hc, hsc, hf, hk, ho⟩ := h.at hb' hL
  obtain ⟨u, hu, hvu⟩ := hc.get o v hv
  have hlt : o < c'.length := by
    rcases Nat.lt_or_ge o c'.length with hj | hj
    · exact hj
    · rw [List.getElem?_eq_none hj] at hv; cases hv
  rw [seg_get hlt] at hu
  exact ⟨u, by rw [cell_of hC, hu], hvu⟩

theorem ro_of_held {μ : Mu} {S : St} {b : Nat} {o : AObj} {L : Loc} (hb : S.heap.get b = some o) (hr : o.ro = false) (hL : μ b = some L) : Held μ S L.blk := ⟨b, o, L, hb, hr, hL, rfl⟩

/-- The object of a block that may be written is turned into another one. -/
theorem Rel.setObj {μ : Mu} {S : St} {w w' : World} (h : Rel μ S w) {b : Nat} {L : Loc} {o o' : AObj} {O' : Obj} (hb : S.heap.get b = some o) (hro : o.ro = false) (_hro' : o'.ro = false) (hL : μ b = some L)
    (h1 : w'.heap[L.blk]? = some O') (h2 : ∀ k, k ≠ L.blk → w'.heap[k]? = w.heap[k]?) (h3 : w'.heap.size = w.heap.size) (h4 : w'.os = w.os) (h5 : w'.tape = w.tape) (h6 : w'.output = w.output) (hO : ObjR μ L o' O') :
    Rel μ ⟨S.next, S.heap.put b (some o')⟩ w' ∧ Stp μ S w μ ⟨S.next, S.heap.put b (some o')⟩ w' := by
  have other : ∀ b' o'' L', b' ≠ b → S.heap.get b' = some o'' → μ b' = some L' → L'.blk ≠ L.blk := fun b' o'' L' hne e e' heq => by
    have := (h.inj b b' o o'' L L' hb e hL e' heq.symm (fun x => hne x.symm)).1
    rw [hro] at this; cases this
  constructor
  · refine ⟨fun b' L' e => ⟨(h.dom b' L' e).1, by rw [h3]; exact (h.dom b' L' e).2⟩, fun b' o'' L' e e' => ?_, fun b1 b2 o1 o2 L1 L2 e1 e2 f1 f2 heq hne => ?_, fun b' o'' e => ?_⟩
    · simp only [Tr.get_put] at e
      split at e
      · rename_i hbb; subst hbb
        obtain rfl : o' = o'' := by simpa using e
        rw [hL] at e'; obtain rfl : L = L' := by simpa using e'
        exact ⟨O', h1, hO⟩
      · rename_i hbb
        obtain ⟨O, hw, hr⟩ := h.obj b' o'' L' e e'
        exact ⟨O, by rw [h2 _ (other b' o'' L' hbb e e')]; exact hw, hr⟩
    · simp only [Tr.get_put] at e1 e2
      split at e1 <;> split at e2
      · omega
      · rename_i x y; subst x
        rw [hL] at f1; obtain rfl : L = L1 := by simpa using f1
        exact absurd heq.symm (other b2 o2 L2 y e2 f2)
      · rename_i x y; subst y
        rw [hL] at f2; obtain rfl : L = L2 := by simpa using f2
        exact absurd heq (other b1 o1 L1 x e1 f1)
      · exact h.inj b1 b2 o1 o2 L1 L2 e1 e2 f1 f2 heq hne
    · simp only [Tr.get_put] at e
      split at e
      · rename_i x; subst x; exact h.fresh _ _ hb
      · exact h.fresh _ _ e
  · refine ⟨Mu.le_refl μ, fun _ _ x y => (by rw [x] at y; cases y), Nat.le_refl _, fun b' e _ => ?_, by rw [h3]; exact Nat.le_refl _, fun k _ hk => ?_, fun k hk => ?_, h4, h5, h6⟩
    · have : b' ≠ b := fun x => by subst x; rw [hL] at e; cases e
      simp [Tr.get_put, this]
    · exact h2 k fun x => hk (x ▸ ro_of_held hb hro hL)
    · obtain ⟨b', o'', L', e, r, m, rfl⟩ := hk
      simp only [Tr.get_put] at e
      split at e
      · rename_i x; subst x
        rw [hL] at m; obtain rfl : L = L' := by simpa using m
        exact .inr (ro_of_held hb hro hL)
      · exact .inr ⟨b', o'', L', e, r, m, rfl⟩

/-- A store. -/
theorem store_cells {P : Program} {μ : Mu} {S S' : St} {w : World} (h : Rel μ S w) {b o : Nat} {L : Loc} {l : List AV} {us : List Value} (hs : storeA S b o l = some S') (hL : μ b = some L) (hv : VRs μ l us) (hsc : l.all scal = true) :
    ∃ w', (storeCells ⟨L.blk, L.off + o, none⟩ us).run P w = .ok () w' ∧ Rel μ S' w' ∧ Stp μ S w μ S' w' := by
  unfold storeA at hs
  split at hs
  rotate_left
  · cases hs
  rename_i op c hb
  cases e : splice c o l with
  | none => rw [e] at hs; cases hs
  | some c' =>
    rw [e] at hs
    obtain rfl : (⟨S.next, S.heap.put b (some (.cells op false c'))⟩ : St) = S' := by simpa using hs
    obtain ⟨C, E, fz, hC, hn, hl, hc, hscal, hf, hk, ho⟩ := h.at hb hL
    obtain ⟨s1, s2, s3⟩ := splice_get e
    have hlen := hv.length
    have hrun := run_storeCells_cells (P := P) L.blk (L.off + o) us 0 w
      (fun j hj => by
        rw [cell_of hC, show L.off + o + 0 + j = L.off + o + j by omega, Array.getElem?_eq_getElem (by omega)]; rfl)
      (fun j hj => by
        rw [frozen_of hC]
        have := hf rfl (L.off + o + 0 + j) (by omega)
        by_cases x : fz.1 ≤ L.off + o + 0 + j
        · have := this x; simp; omega
        · simp; omega)
      (fun u hu => by
        obtain ⟨i, hi, rfl⟩ := List.getElem_of_mem hu
        obtain ⟨v, hv1, hv2⟩ := hv.get' i us[i] (by simp [hi])
        rw [List.all_eq_true] at hsc
        exact hv2.one (hsc v (List.mem_of_getElem? hv1)))
    obtain ⟨a1, a2, a3, a4, a5, a6⟩ := setCells_heap L.blk us (L.off + o + 0) w C E fz hC
    refine ⟨_, hrun, h.setObj hb rfl rfl hL a1 a2 a3 a4 a5 a6 ?_⟩
    refine .cells (by rw [lay_size]; exact hn) (by rw [lay_size, s2]; exact hl) ?_ ?_ (by rw [lay_size]; exact hf) (by rw [lay_size, s2]; exact hk) ho
    · refine VRs.mk (by simp [lay_size]; omega) fun i v u hv1 hu1 => ?_
      have hi : i < c'.length := by
        rcases Nat.lt_or_ge i c'.length with hj | hj
        · exact hj
        · rw [List.getElem?_eq_none hj] at hv1; cases hv1
      rw [seg_get hi, lay_get us C _ _ (by omega)] at hu1
      rw [s3 i] at hv1
      by_cases hh : o ≤ i ∧ i < o + l.length
      · rw [if_pos hh] at hv1
        rw [if_pos (by omega), show L.off + i - (L.off + o + 0) = i - o by omega] at hu1
        obtain ⟨u', e1, e2⟩ := hv.get _ _ hv1
        rw [e1] at hu1; obtain rfl : u' = u := by simpa using hu1
        exact e2
      · rw [if_neg hh] at hv1
        rw [if_neg (by omega)] at hu1
        obtain ⟨u', e1, e2⟩ := hc.get _ _ hv1
        rw [seg_get (by omega), hu1] at e1
        obtain rfl : u = u' := by simpa using e1
        exact e2
    · rw [List.all_eq_true] at hscal hsc ⊢
      intro x hx
      obtain ⟨i, hi, rfl⟩ := List.getElem_of_mem hx
      have := s3 i
      rw [List.getElem?_eq_getElem hi] at this
      split at this
      · exact hsc _ (List.mem_of_getElem? this.symm)
      · exact hscal _ (List.mem_of_getElem? this.symm)

/-- A new block of the world for a new abstract one. -/
def Mu.add (μ : Mu) (b : Nat) (L : Loc) : Mu := fun k => if k = b then some L else μ k
theorem Mu.add_same (μ : Mu) (b : Nat) (L : Loc) : μ.add b L b = some L := by simp [Mu.add]
theorem Mu.add_le {μ : Mu} {b : Nat} (L : Loc) (h : μ b = none) : μ.le (μ.add b L) := fun k M e => by
  unfold Mu.add; split
  · rename_i x; subst x; rw [h] at e; cases e
  · exact e
theorem Rel.noNext {μ : Mu} {S : St} {w : World} (h : Rel μ S w) : μ S.next = none := by
  cases e : μ S.next with
  | none => rfl
  | some L => have := (h.dom _ _ e).1; omega

theorem Rel.alloc {μ : Mu} {S : St} {w w' : World} (h : Rel μ S w) {o : AObj} {O : Obj} {L : Loc} (hL : L.blk = w.heap.size)
    (h1 : w'.heap[w.heap.size]? = some O) (h2 : ∀ k, k < w.heap.size → w'.heap[k]? = w.heap[k]?) (h3 : w'.heap.size = w.heap.size + 1) (h4 : w'.os = w.os) (h5 : w'.tape = w.tape) (h6 : w'.output = w.output)
    (hO : ObjR (μ.add S.next L) L o O) :
    Rel (μ.add S.next L) (new S o) w' ∧ Stp μ S w (μ.add S.next L) (new S o) w' := by
  have hnone := h.noNext
  have get : ∀ b, (new S o).heap.get b = if b = S.next then some o else S.heap.get b := fun b => by simp [new, Tr.get_put]
  have hfr : ∀ b o', S.heap.get b = some o' → b ≠ S.next := fun b o' e x => by have := h.fresh _ _ e; omega
  have old : ∀ b L', b ≠ S.next → (μ.add S.next L) b = some L' → μ b = some L' ∧ L'.blk < w.heap.size := fun b L' hb e => by
    simp [Mu.add, hb] at e; exact ⟨e, (h.dom _ _ e).2⟩
  constructor
  · refine ⟨fun b L' e => ?_, fun b o' L' e e' => ?_, fun b1 b2 o1 o2 L1 L2 e1 e2 f1 f2 heq hne => ?_, fun b o' e => ?_⟩
    · by_cases hb : b = S.next
      · subst hb; rw [Mu.add_same] at e; obtain rfl : L = L' := by simpa using e
        exact ⟨by simp [new], by rw [h3, hL]; omega⟩
      · obtain ⟨e1, e2⟩ := old b L' hb e
        exact ⟨by have := (h.dom _ _ e1).1; simp [new]; omega, by omega⟩
    · rw [get] at e
      by_cases hb : b = S.next
      · subst hb
        rw [if_pos rfl] at e; obtain rfl : o = o' := by simpa using e
        rw [Mu.add_same] at e'; obtain rfl : L = L' := by simpa using e'
        exact ⟨O, by rw [hL]; exact h1, hO⟩
      · rw [if_neg hb] at e
        obtain ⟨x1, x2⟩ := old b L' hb e'
        obtain ⟨O', y1, y2⟩ := h.obj b o' L' e x1
        exact ⟨O', by rw [h2 _ x2]; exact y1, y2.mono (Mu.add_le L hnone)⟩
    · rw [get] at e1 e2
      by_cases hb1 : b1 = S.next <;> by_cases hb2 : b2 = S.next
      · omega
      · subst hb1; rw [Mu.add_same] at f1; obtain rfl : L = L1 := by simpa using f1
        have := (old b2 L2 hb2 f2).2; omega
      · subst hb2; rw [Mu.add_same] at f2; obtain rfl : L = L2 := by simpa using f2
        have := (old b1 L1 hb1 f1).2; omega
      · rw [if_neg hb1] at e1; rw [if_neg hb2] at e2
        exact h.inj b1 b2 o1 o2 L1 L2 e1 e2 (old b1 L1 hb1 f1).1 (old b2 L2 hb2 f2).1 heq hne
    · rw [get] at e
      by_cases hb : b = S.next
      · subst hb; simp [new]
      · rw [if_neg hb] at e; have := h.fresh _ _ e; simp [new]; omega
  · refine ⟨Mu.add_le L hnone, fun b L' e e0 => ?_, by simp [new], fun b e hb => ?_, by omega, fun k hk _ => h2 k hk, fun k hk => ?_, h4, h5, h6⟩
    · by_cases hb : b = S.next
      · omega
      · have := (old b L' hb e).1; rw [this] at e0; cases e0
    · rw [get, if_neg (by omega)]
    · obtain ⟨b, o', L', e, r, m, rfl⟩ := hk
      rw [get] at e
      by_cases hb : b = S.next
      · subst hb; rw [Mu.add_same] at m; obtain rfl : L = L' := by simpa using m
        exact .inl (by omega)
      · rw [if_neg hb] at e
        exact .inr ⟨b, o', L', e, r, (old b L' hb m).1, rfl⟩

theorem World.heap_alloc_new (w : World) (o : Obj) : (w.alloc o).heap[w.heap.size]? = some o := by show (w.heap.push o)[w.heap.size]? = _; simp

/-- The usual new block: its cells are all known. -/
theorem Rel.allocCells {μ : Mu} {S : St} {w : World} (h : Rel μ S w) {c : List AV} {C : Array Value} (E : TypeId) (hc : VRs μ c C.toList) (hs : c.all scal = true) :
    ∃ μ', μ' S.next = some ⟨w.heap.size, 0, C.size, 0⟩ ∧ Rel μ' (new S (.cells none false c)) (w.alloc (.cells C E (0, 0))) ∧ Stp μ S w μ' (new S (.cells none false c)) (w.alloc (.cells C E (0, 0))) := by
  refine ⟨μ.add S.next ⟨w.heap.size, 0, C.size, 0⟩, Mu.add_same _ _ _, ?_⟩
  have hlen := hc.length
  simp at hlen
  refine h.alloc (O := .cells C E (0, 0)) rfl (World.heap_alloc_new _ _) (fun k hk => RowKit.Below.heap_alloc _ _ _ hk) (by simp) rfl rfl rfl ?_
  refine .cells rfl (by simp; omega) ?_ hs (by simp) (by simp; omega) (by simp)
  have := hc.mono (Mu.add_le ⟨w.heap.size, 0, C.size, 0⟩ h.noNext)
  rwa [List.drop_zero, List.take_of_length_le (by simp; omega)]

end Go.Ab
