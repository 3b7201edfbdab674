/-
  THE OPERATIONS, SECOND PART: picks, new blocks, literals, append, equality.
-/
import Derived.Test.YtnhfopfmgodllaaAbOpsA
import Derived.Laws.StructEq
namespace Go.Ab
open Go
set_option linter.unusedSectionVars false
variable [Inhabited Unknowns]
variable {P : Program} {gl : List Nat} {o : Oper}

theorem sim_pick {x x1 x2 : X} {y y1 y2 : Operand} (ho : o.op = .pick y y1 y2) (hx : opdOk gl y x = true) (h1 : opdOk gl y1 x1 = true) (h2 : opdOk gl y2 x2 = true) : OpR P gl o (do_pick x x1 x2) := by
  intro μ S w fr a N v S' hg hR hf h
  unfold do_pick at h
  split at h
  · rename_i hb
    have eb := evX_bool hx hg hf hb
    split at h
    · rename_i v' hv
      obtain ⟨rfl, rfl⟩ : v' = v ∧ S = S' := by simpa using h
      exact .pure hR (u := a.eval y1) (by simp [execOp, ho, eb, asBool]) (opd_vr h1 hg hf hv)
    · cases h
  · rename_i hb
    have eb := evX_bool hx hg hf hb
    split at h
    · rename_i v' hv
      obtain ⟨rfl, rfl⟩ : v' = v ∧ S = S' := by simpa using h
      exact .pure hR (u := a.eval y2) (by simp [execOp, ho, eb, asBool]) (opd_vr h2 hg hf hv)
    · cases h
  · cases h

theorem sim_extract {x : X} {y : Operand} {i : Nat} (ho : o.op = .extract y i) (hx : opdOk gl y x = true) : OpR P gl o (do_extract x i) := by
  intro μ S w fr a N v S' hg hR hf h
  unfold do_extract at h
  split at h
  · rename_i l hv
    split at h
    · rename_i v' hn
      obtain ⟨rfl, rfl⟩ : v' = v ∧ S = S' := by simpa using h
      have := opd_vr hx hg hf hv
      cases he : a.eval y <;> rw [he] at this <;> cases this
      rename_i vs hvs
      obtain ⟨u, hu, hr⟩ := hvs.get i v' hn
      rw [Array.getElem?_toList] at hu
      exact .pure hR (u := u) (by simp [execOp, ho, he, Instr.extract, hu]) hr
    · cases h
  · cases h

def isSlice (P : Program) (t : TypeId) : Bool := match P.underlying t with
  | some (.slice _) => true
  | _ => false
theorem isSlice_spec {t : TypeId} (h : isSlice P t = true) : ∃ e, P.underlying t = some (.slice e) := by
  unfold isSlice at h; split at h <;> first | exact ⟨_, ‹_›⟩ | cases h

theorem sim_lenS {x : X} {c : Call} {t : TypeId} {y : Operand} (ho : o.op = .call c) (hc : c.callee = .builtin .len) (ha : c.args = #[y]) (ht : c.argTypes[0]? = some t) (hs : isSlice P t = true) (hx : opdOk gl y x = true) : OpR P gl o (do_lenS x) := by
  intro μ S w fr a N v S' hg hR hf h
  obtain ⟨e, hu⟩ := isSlice_spec hs
  unfold do_lenS at h
  split at h
  · rename_i hv
    obtain ⟨rfl, rfl⟩ : AV.int .i64 0 = v ∧ S = S' := by simpa using h
    have he := evX_nils hx hg hf hv
    exact .pure hR (u := .int .i64 0) (by simp [execOp, ho, resolve, hc, ha, invoke, builtin, Builtin.len_, ht, he, r_underlying hu, goInt]) (.int _ _)
  · rename_i b off len cap hv
    obtain ⟨rfl, rfl⟩ : AV.int .i64 len = v ∧ S = S' := by simpa using h
    obtain ⟨L, co, cc, hL, he, _⟩ := evX_slc hx hg hf hv
    exact .pure hR (u := .int .i64 len) (by simp [execOp, ho, resolve, hc, ha, invoke, builtin, Builtin.len_, ht, he, r_underlying hu, goInt]) (.int _ _)
  · cases h

theorem sim_box {x : X} {t : TypeId} {y : Operand} (ho : o.op = .box t y) (hx : opdOk gl y x = true) : OpR P gl o (do_box x) := by
  intro μ S w fr a N v S' hg hR hf h
  unfold do_box at h
  split at h
  · rename_i v' hv
    split at h
    · rename_i hfl
      obtain ⟨rfl, rfl⟩ : AV.ptr S.next 0 = v ∧ new S (.cells none false v'.cells) = S' := by simpa using h
      have hr := opd_vr hx hg hf hv
      obtain ⟨μ', h1, h2, h3⟩ := hR.allocCells t hr.cells (hr.cells_scal (flat_tup hfl))
      refine ⟨μ', _, .pointer (some ⟨w.heap.size, 0, none⟩), .inl ?_, ?_, h2, h3⟩
      · simp [execOp, ho, Instr.box, newVar, newRow]
      · simpa using VR.ptr (o := 0) h1
    · cases h
  · cases h

/-! ### Literals -/
def cellsOk : List Value → List AV → Bool
  | [], [] => true
  | v :: l, a :: m => constOk v a && scal a && cellsOk l m
  | _, _ => false
theorem cellsOk_vrs : ∀ {l : List Value} {m : List AV}, cellsOk l m = true → ∀ μ, VRs μ m l ∧ m.all scal = true
  | [], [], _, _ => ⟨.nil, rfl⟩
  | v :: l, a :: m, h, μ => by
    simp only [cellsOk, Bool.and_eq_true] at h
    obtain ⟨h1, h2⟩ := cellsOk_vrs h.2 μ
    exact ⟨.cons (constOk_vr h.1.1 μ) h1, by simp [h.1.2]; simpa using h2⟩
  | [], _ :: _, h, _ => by simp [cellsOk] at h
  | _ :: _, [], h, _ => by simp [cellsOk] at h

def zeroOk (P : Program) (t : TypeId) (m : List AV) : Bool := match P.info? t with
  | some i => match i.zero with
    | some z => cellsOk z.cells.toList m
    | none => false
  | none => false
theorem zeroOk_spec {t : TypeId} {m : List AV} (h : zeroOk P t m = true) : ∃ z, (∀ w, (zeroValue t).run P w = .ok z w) ∧ cellsOk z.cells.toList m = true := by
  unfold zeroOk at h
  split at h
  · rename_i i hi
    split at h
    · rename_i z hz; exact ⟨z, r_zero hi hz, h⟩
    · cases h
  · cases h

theorem sim_alloc {cells : List AV} {t : TypeId} (ho : o.op = .alloc t) (hz : zeroOk P t cells = true) : OpR P gl o (do_alloc cells) := by
  intro μ S w fr a N v S' hg hR hf h
  unfold do_alloc at h
  obtain ⟨rfl, rfl⟩ : AV.ptr S.next 0 = v ∧ new S (.cells none false cells) = S' := by simpa using h
  obtain ⟨z, h1, h2⟩ := zeroOk_spec hz
  obtain ⟨h3, h4⟩ := cellsOk_vrs h2 μ
  obtain ⟨μ', k1, k2, k3⟩ := hR.allocCells t h3 h4
  refine ⟨μ', _, .pointer (some ⟨w.heap.size, 0, none⟩), .inl ?_, by simpa using VR.ptr (o := 0) k1, k2, k3⟩
  simp [execOp, ho, Instr.alloc, h1, newVar, newRow]

def partsOk (gl : List Nat) (place : Nat → Option (Nat × Nat)) : List (Nat × Operand) → List (Nat × Nat × X) → Bool
  | [], [] => true
  | (i, y) :: l, (off, sz, x) :: m => place i == some (off, sz) && opdOk gl y x && partsOk gl place l m
  | _, _ => false

theorem foldl_lay : ∀ (l : List Value) (C : Array Value) (off k : Nat), (l.zipIdx k).foldl (fun cs (p : Value × Nat) => cs.setIfInBounds (off + p.2) p.1) C = lay C (off + k) l
  | [], _, _, _ => rfl
  | v :: l, C, off, k => by
    simp only [List.zipIdx_cons, List.foldl_cons, lay]
    rw [foldl_lay l _ off (k + 1)]; rfl

theorem splice_lay {μ : Mu} {c c' l : List AV} {off : Nat} {C : Array Value} {us : List Value} (h : splice c off l = some c') (hc : VRs μ c C.toList) (hl : VRs μ l us) : VRs μ c' (lay C off us).toList := by
  obtain ⟨s1, s2, s3⟩ := splice_get h
  have n1 := hc.length
  have n2 := hl.length
  simp at n1
  refine VRs.mk (by simp [lay_size]; omega) fun i v u hv hu => ?_
  rw [Array.getElem?_toList, lay_get us C off i (by omega)] at hu
  rw [s3 i] at hv
  by_cases hh : off ≤ i ∧ i < off + l.length
  · rw [if_pos hh] at hv
    rw [if_pos (by omega)] at hu
    obtain ⟨u', e1, e2⟩ := hl.get _ _ hv
    rw [hu] at e1; obtain rfl := Option.some.inj e1; exact e2
  · rw [if_neg hh] at hv
    rw [if_neg (by omega)] at hu
    obtain ⟨u', e1, e2⟩ := hc.get _ _ hv
    rw [Array.getElem?_toList, hu] at e1; obtain rfl := Option.some.inj e1; exact e2
theorem splice_scal {c c' l : List AV} {off : Nat} (h : splice c off l = some c') (hc : c.all scal = true) (hl : l.all scal = true) : c'.all scal = true := by
  obtain ⟨s1, s2, s3⟩ := splice_get h
  rw [List.all_eq_true] at *
  intro x hx
  obtain ⟨i, hi, rfl⟩ := List.getElem_of_mem hx
  have := s3 i
  rw [List.getElem?_eq_getElem hi] at this
  split at this
  · exact hl _ (List.mem_of_getElem? this.symm)
  · exact hc _ (List.mem_of_getElem? this.symm)

theorem fill_run {μ : Mu} (hg : GR gl μ) {N : Nat} {fr : Fr} {a : Act} (hf : FrR μ N fr a.tmps) (place : Nat → Option (Nat × Nat)) : ∀ (ps : List (Nat × Operand)) (qs : List (Nat × Nat × X)) (vs : List (Nat × Nat × AV)) (c c' : List AV) (C : Array Value),
    partsOk gl place ps qs = true → evParts fr qs = some vs → fill c vs = some c' → VRs μ c C.toList → c.all scal = true →
    ∃ C', Instr.fill place C (ps.map fun p => (p.1, a.eval p.2)) = some C' ∧ VRs μ c' C'.toList ∧ c'.all scal = true ∧ C'.size = C.size
  | [], [], vs, c, c', C, _, he, hfl, hc, hs => by
    obtain rfl : [] = vs := by simpa [evParts] using he
    obtain rfl : c = c' := by simpa [fill] using hfl
    exact ⟨C, rfl, hc, hs, rfl⟩
  | (i, y) :: ps, (off, sz, x) :: qs, vs, c, c', C, hp, he, hfl, hc, hs => by
    simp only [partsOk, Bool.and_eq_true, beq_iff_eq] at hp
    obtain ⟨⟨hp1, hp2⟩, hp3⟩ := hp
    simp only [evParts] at he
    split at he
    · rename_i v vs' hv hvs
      obtain rfl := Option.some.inj he
      simp only [fill] at hfl
      split at hfl
      · rename_i hlen
        split at hfl
        · rename_i c1 hsp
          have hr := opd_vr hp2 hg hf hv
          have hcl := hr.cells
          have hln := hcl.length
          have n1 := hc.length
          obtain ⟨s1, _, _⟩ := splice_get hsp
          simp at n1 hln
          obtain ⟨C', k1, k2, k3, k4⟩ := fill_run hg hf place ps qs vs' c1 c' (lay C off (a.eval y).cells.toList) hp3 hvs hfl (splice_lay hsp hc hcl) (splice_scal hsp hs (hr.cells_scal (flat_tup hlen.2)))
          refine ⟨C', ?_, k2, k3, by rw [k4, lay_size]⟩
          simp only [List.map_cons, Instr.fill, hp1]
          rw [if_neg (by simp; omega)]
          have : (a.eval y).cells.zipIdx.foldl (fun cs (p : Value × Nat) => cs.setIfInBounds (off + p.2) p.1) C = lay C off (a.eval y).cells.toList := by
            rw [← Array.foldl_toList, Array.toList_zipIdx, foldl_lay]; rfl
          rw [this]
          exact k1
        · cases hfl
      · cases hfl
    · cases he
  | [], _ :: _, _, _, _, _, hp, _, _, _, _ => by simp [partsOk] at hp
  | _ :: _, [], _, _, _, _, hp, _, _, _, _ => by simp [partsOk] at hp

def buildOk (P : Program) (gl : List Nat) (t : TypeId) (parts : List (Nat × Operand)) (cells : List AV) (qs : List (Nat × Nat × X)) : Bool :=
  zeroOk P t cells && match P.underlying t with
  | some (.struct fs) => match fs.toList.mapM (fun f => (P.info? f.type).map fun i => (f.offset, i.size)) with
    | some places => partsOk gl (fun j => places[j]?) parts qs
    | none => false
  | some (.array _ e) => match P.info? e with
    | some i => partsOk gl (fun j => some (j * i.size, i.size)) parts qs
    | none => false
  | _ => false

theorem places_run (w : World) : ∀ (fs : List Field) (places : List (Nat × Nat)), fs.mapM (fun f => (P.info? f.type).map fun i => (f.offset, i.size)) = some places →
    (fs.mapM (fun f => Prod.mk f.offset <$> sizeOf f.type)).run P w = .ok places w
  | [], places, h => by simp at h; subst h; rfl
  | f :: fs, places, h => by
    simp only [List.mapM_cons, Option.pure_def, Option.bind_eq_bind, Option.bind_eq_some_iff, Option.map_eq_some_iff] at h
    obtain ⟨x, ⟨i, hi, rfl⟩, ys, hys, hp⟩ := h
    obtain rfl := Option.some.inj hp
    simp [List.mapM_cons, r_sizeOf hi, places_run w fs ys hys]

theorem sim_build {cells : List AV} {qs : List (Nat × Nat × X)} {t : TypeId} {parts : Array (Nat × Operand)} (ho : o.op = .build t parts) (hb : buildOk P gl t parts.toList cells qs = true) : OpR P gl o (do_build cells qs) := by
  intro μ S w fr a N v S' hg hR hf h
  unfold do_build at h
  split at h
  · rename_i vs hvs
    split at h
    · rename_i c hfl
      obtain ⟨rfl, rfl⟩ : AV.agg c = v ∧ S = S' := by simpa using h
      simp only [buildOk, Bool.and_eq_true] at hb
      obtain ⟨z, h1, h2⟩ := zeroOk_spec hb.1
      obtain ⟨h3, h4⟩ := cellsOk_vrs h2 μ
      have hb := hb.2
      split at hb
      · rename_i fs hu
        split at hb
        · rename_i places hpl
          obtain ⟨C', k1, k2, k3, k4⟩ := fill_run hg hf _ parts.toList qs vs cells c z.cells hb hvs hfl h3 h4
          refine .pure hR (u := .agg C') ?_ (.agg k2 k3)
          have hrun : (fs.mapM fun f => Prod.mk f.offset <$> sizeOf f.type).run P w = .ok places.toArray w := by
            rw [Array.mapM_eq_mapM_toList]; simp [places_run w fs.toList places hpl]
          simp [execOp, ho, Instr.build, h1, r_underlying hu, hrun]
          rw [show (Instr.fill (fun x => places[x]?) z.cells (List.map (fun x => (x.1, a.eval x.2)) parts.toList)) = some C' from k1]
          rfl
        · cases hb
      · rename_i n e hu
        split at hb
        · rename_i i hi
          obtain ⟨C', k1, k2, k3, k4⟩ := fill_run hg hf _ parts.toList qs vs cells c z.cells hb hvs hfl h3 h4
          refine .pure hR (u := .agg C') ?_ (.agg k2 k3)
          simp [execOp, ho, Instr.build, h1, r_underlying hu, r_sizeOf hi]
          rw [show (Instr.fill (fun j => some (j * i.size, i.size)) z.cells (List.map (fun x => (x.1, a.eval x.2)) parts.toList)) = some C' from k1]
          rfl
        · cases hb
      · cases hb
    · cases h
  · cases h
end Go.Ab
