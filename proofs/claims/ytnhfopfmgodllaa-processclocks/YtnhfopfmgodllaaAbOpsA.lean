/-
  THE OPERATIONS, FIRST PART: what the abstract machine does at an operation is what the model does.
-/
import Derived.Test.YtnhfopfmgodllaaAbSym
namespace Go.Ab
open Go
set_option linter.unusedSectionVars false
variable [Inhabited Unknowns]

/-! ### Operands -/
/-- The package-level variables that the abstract state knows. -/
def GR (gl : List Nat) (μ : Mu) : Prop := ∀ g ∈ gl, ∃ L, μ g = some L ∧ L.blk = g ∧ L.off = 0
theorem GR.mono {gl : List Nat} {μ μ' : Mu} (le : μ.le μ') (h : GR gl μ) : GR gl μ' := fun g hg => let ⟨L, h1, h2⟩ := h g hg; ⟨L, le _ _ h1, h2⟩

def constOk : Value → AV → Bool
  | .bool b, .bool c => b == c
  | .int k n, .int j m => k == j && n == m
  | .string s, .str l => s.data.toList.map UInt8.toNat == l
  | .pointer none, .nilp => true
  | .slice none 0 0, .nils => true
  | .map none, .nilm => true
  | .nilFunc, .nilFn => true
  | .nilIface, .nilIface => true
  | _, _ => false
theorem constOk_vr {v : Value} {a : AV} (h : constOk v a = true) (μ : Mu) : VR μ a v := by
  unfold constOk at h
  split at h
  · simp at h; subst h; exact .bool _
  · simp at h; obtain ⟨rfl, rfl⟩ := h; exact .int _ _
  · exact .str (by simpa using h)
  · exact .nilp
  · exact .nils
  · exact .nilm
  · exact .nilFn
  · exact .nilIface
  · cases h

def opdOk (gl : List Nat) : Operand → X → Bool
  | .tmp t, .t n => t == n
  | .const v, .c a => constOk v a
  | .global g, .c (.ptr b o) => g == b && o == 0 && gl.contains g
  | .func f, .c (.fn g l) => f == g && l.isEmpty
  | _, _ => false

theorem opd_vr {gl : List Nat} {y : Operand} {x : X} (h : opdOk gl y x = true) {μ : Mu} (hg : GR gl μ) {N : Nat} {fr : Fr} {a : Act} (hf : FrR μ N fr a.tmps) {v : AV} (hv : evX fr x = some v) : VR μ v (a.eval y) := by
  unfold opdOk at h
  split at h
  · obtain rfl := (beq_iff_eq.1 h)
    obtain ⟨u, hu, hr⟩ := hf.get _ _ hv
    simpa [Act.eval, hu] using hr
  · obtain rfl : _ = v := by simpa [evX] using hv
    exact constOk_vr h μ
  · obtain rfl : _ = v := by simpa [evX] using hv
    simp at h
    obtain ⟨⟨rfl, rfl⟩, hm⟩ := h
    obtain ⟨L, h1, h2, h3⟩ := hg _ hm
    have := VR.ptr (o := 0) h1
    rw [h2, h3] at this
    exact this
  · obtain rfl : _ = v := by simpa [evX] using hv
    simp at h
    obtain ⟨rfl, rfl⟩ := h
    exact .fn .nil
  · cases h

/-- What an operation came to. -/
def Came (μ : Mu) (S : St) (w : World) (r : Result Next) (v : AV) (S' : St) : Prop :=
  ∃ μ' w' u, (r = .ok (.value u) w' ∨ (r = .ok .skip w' ∧ u = undef)) ∧ VR μ' v u ∧ Rel μ' S' w' ∧ Stp μ S w μ' S' w'

theorem Came.pure {μ : Mu} {S : St} {w : World} {r : Result Next} {v : AV} {u : Value} (hR : Rel μ S w) (h : r = .ok (.value u) w) (hv : VR μ v u) : Came μ S w r v S := ⟨μ, w, u, .inl h, hv, hR, Stp.refl _ _ _⟩
theorem Came.skip {μ : Mu} {S S' : St} {w w' : World} {r : Result Next} (hR : Rel μ S' w') (hS : Stp μ S w μ S' w') (h : r = .ok .skip w') : Came μ S w r (.tup []) S' := ⟨μ, w', undef, .inr ⟨h, rfl⟩, .tup .nil, hR, hS⟩

def OpR (P : Program) (gl : List Nat) (o : Oper) (step : Fr → St → Option (AV × St)) : Prop :=
  ∀ {μ : Mu} {S : St} {w : World} {fr : Fr} {a : Act} {N : Nat} {v : AV} {S' : St}, GR gl μ → Rel μ S w → FrR μ N fr a.tmps → step fr S = some (v, S') → Came μ S w ((execOp a.eval o).run P w) v S'

/-! ### Types -/
theorem r_underlying {P : Program} {t : TypeId} {d : TypeDesc} (h : P.underlying t = some d) (w : World) : (underlying t).run P w = .ok d w := by simp [underlying, h]
theorem r_typeInfo {P : Program} {t : TypeId} {i : TypeInfo} (h : P.info? t = some i) (w : World) : (typeInfo t).run P w = .ok i w := by simp [typeInfo, h]
theorem r_sizeOf {P : Program} {t : TypeId} {i : TypeInfo} (h : P.info? t = some i) (w : World) : (sizeOf t).run P w = .ok i.size w := by simp [sizeOf, typeInfo, h]
theorem r_zero {P : Program} {t : TypeId} {i : TypeInfo} {z : Value} (h : P.info? t = some i) (hz : i.zero = some z) (w : World) : (zeroValue t).run P w = .ok z w := by simp [zeroValue, typeInfo, h, hz]

def aggD : TypeDesc → Bool
  | .struct _ | .array _ _ => true
  | _ => false
theorem r_isAgg {P : Program} {t : TypeId} {d : TypeDesc} (h : P.underlying t = some d) (w : World) : (isAgg t).run P w = .ok (aggD d) w := by
  unfold isAgg aggD
  simp only [Sem.run_bind, r_underlying h, Result.andThen_ok]
  cases d <;> rfl

def sizeIs (P : Program) (t : TypeId) (n : Nat) : Bool := match P.info? t with
  | some i => i.size == n
  | none => false
theorem sizeIs_run {P : Program} {t : TypeId} {n : Nat} (h : sizeIs P t n = true) (w : World) : (sizeOf t).run P w = .ok n w := by
  unfold sizeIs at h; split at h
  · rename_i i hi; rw [r_sizeOf hi, beq_iff_eq.1 h]
  · cases h
/-- One cell, or an aggregate of so many. -/
def szOk (P : Program) (t : TypeId) (sz : Option Nat) : Bool := match P.underlying t with
  | some d => match sz with
    | some n => aggD d && sizeIs P t n
    | none => !aggD d
  | none => false
theorem szOk_spec {P : Program} {t : TypeId} {sz : Option Nat} (h : szOk P t sz = true) : (∃ n, sz = some n ∧ (∀ w, (isAgg t).run P w = .ok true w) ∧ ∀ w, (sizeOf t).run P w = .ok n w) ∨ (sz = none ∧ ∀ w, (isAgg t).run P w = .ok false w) := by
  unfold szOk at h
  split at h
  · rename_i d hd
    split at h
    · simp at h; exact .inl ⟨_, rfl, fun w => by rw [r_isAgg hd, h.1], sizeIs_run h.2⟩
    · simp at h; exact .inr ⟨rfl, fun w => by rw [r_isAgg hd, h]⟩
  · cases h

theorem r_loadVar {P : Program} {μ : Mu} {S : St} {w : World} (hR : Rel μ S w) {t : TypeId} {sz : Option Nat} (ht : szOk P t sz = true) {b o : Nat} {L : Loc} {v : AV} (hL : μ b = some L) (hv : loadA S b o sz = some v) :
    ∃ u, (loadVar t ⟨L.blk, L.off + o, none⟩).run P w = .ok u w ∧ VR μ v u := by
  unfold loadA at hv
  cases hc : cellsOf S b with
  | none => rw [hc] at hv; cases hv
  | some c =>
    rw [hc] at hv
    simp only at hv
    rcases szOk_spec ht with ⟨n, rfl, h1, h2⟩ | ⟨rfl, h1⟩
    · simp only [part] at hv
      cases hs : slice? c o n with
      | none => rw [hs] at hv; cases hv
      | some l =>
        rw [hs] at hv
        obtain rfl : AV.agg l = v := by simpa using hv
        obtain ⟨us, hu, hvs, hsc⟩ := load_cells (P := P) hR hc hL hs
        exact ⟨.agg us.toArray, by simp [loadVar, h1, h2, hu], .agg (by simpa using hvs) hsc⟩
    · simp only [part] at hv
      obtain ⟨u, hu, hr⟩ := load_one hR hc hL hv
      exact ⟨u, by simp [loadVar, h1, hu], hr⟩

theorem evX_ptr {gl : List Nat} {y : Operand} {x : X} (h : opdOk gl y x = true) {μ : Mu} (hg : GR gl μ) {N : Nat} {fr : Fr} {a : Act} (hf : FrR μ N fr a.tmps) {b o : Nat} (hv : evX fr x = some (.ptr b o)) :
    ∃ L, μ b = some L ∧ a.eval y = .pointer (some ⟨L.blk, L.off + o, none⟩) := by
  have := opd_vr h hg hf hv
  cases hx : a.eval y <;> rw [hx] at this <;> cases this
  exact ⟨_, ‹_›, rfl⟩
theorem evX_int {gl : List Nat} {y : Operand} {x : X} (h : opdOk gl y x = true) {μ : Mu} (hg : GR gl μ) {N : Nat} {fr : Fr} {a : Act} (hf : FrR μ N fr a.tmps) {k : IntKind} {n : Int} (hv : evX fr x = some (.int k n)) : a.eval y = .int k n := by
  have := opd_vr h hg hf hv
  cases hx : a.eval y <;> rw [hx] at this <;> cases this
  rfl
theorem evX_bool {gl : List Nat} {y : Operand} {x : X} (h : opdOk gl y x = true) {μ : Mu} (hg : GR gl μ) {N : Nat} {fr : Fr} {a : Act} (hf : FrR μ N fr a.tmps) {b : Bool} (hv : evX fr x = some (.bool b)) : a.eval y = .bool b := by
  have := opd_vr h hg hf hv
  cases hx : a.eval y <;> rw [hx] at this <;> cases this
  rfl
theorem evX_str {gl : List Nat} {y : Operand} {x : X} (h : opdOk gl y x = true) {μ : Mu} (hg : GR gl μ) {N : Nat} {fr : Fr} {a : Act} (hf : FrR μ N fr a.tmps) {l : List Nat} (hv : evX fr x = some (.str l)) :
    ∃ s, a.eval y = .string s ∧ s.data.toList.map UInt8.toNat = l := by
  have := opd_vr h hg hf hv
  cases hx : a.eval y <;> rw [hx] at this <;> cases this
  exact ⟨_, rfl, ‹_›⟩
theorem evX_agg {gl : List Nat} {y : Operand} {x : X} (h : opdOk gl y x = true) {μ : Mu} (hg : GR gl μ) {N : Nat} {fr : Fr} {a : Act} (hf : FrR μ N fr a.tmps) {l : List AV} (hv : evX fr x = some (.agg l)) :
    ∃ c, a.eval y = .agg c ∧ VRs μ l c.toList ∧ l.all scal = true := by
  have := opd_vr h hg hf hv
  cases hx : a.eval y <;> rw [hx] at this <;> cases this
  exact ⟨_, rfl, ‹_›, ‹_›⟩
theorem evX_slc {gl : List Nat} {y : Operand} {x : X} (h : opdOk gl y x = true) {μ : Mu} (hg : GR gl μ) {N : Nat} {fr : Fr} {a : Act} (hf : FrR μ N fr a.tmps) {b o len : Nat} {cap : Option Nat} (hv : evX fr x = some (.slc b o len cap)) :
    ∃ L co cc, μ b = some L ∧ a.eval y = .slice (some ⟨L.blk, co, none⟩) len cc ∧ len ≤ cc ∧ (len ≠ 0 → co = L.off + o) ∧ (∀ c, cap = some c → cc = c ∧ co = L.off + o) ∧ (cap = none → co + cc * L.es ≤ L.size) := by
  have := opd_vr h hg hf hv
  cases hx : a.eval y <;> rw [hx] at this <;> cases this
  · exact ⟨_, _, _, ‹_›, rfl, ‹_›, fun _ => rfl, fun c e => (by simp at e; exact ⟨e, rfl⟩), fun e => (by cases e)⟩
  · exact ⟨_, _, _, ‹_›, rfl, ‹_›, ‹_›, fun c e => (by cases e), fun _ => ‹_›⟩
theorem evX_nils {gl : List Nat} {y : Operand} {x : X} (h : opdOk gl y x = true) {μ : Mu} (hg : GR gl μ) {N : Nat} {fr : Fr} {a : Act} (hf : FrR μ N fr a.tmps) (hv : evX fr x = some .nils) : a.eval y = .slice none 0 0 := by
  have := opd_vr h hg hf hv
  cases hx : a.eval y <;> rw [hx] at this <;> cases this
  rfl

/-! ### mov, load, store, fieldA, idxS, nilchk, ibin -/
variable {P : Program} {gl : List Nat} {o : Oper}

theorem sim_mov {x : X} {y : Operand} (ho : o.op = .move y ∨ o.op = .assign y) (hx : opdOk gl y x = true) : OpR P gl o (do_mov x) := by
  intro μ S w fr a N v S' hg hR hf h
  unfold do_mov at h
  split at h
  · rename_i v' hv
    obtain ⟨rfl, rfl⟩ : v' = v ∧ S = S' := by simpa using h
    refine .pure hR (u := a.eval y) ?_ (opd_vr hx hg hf hv)
    rcases ho with ho | ho <;> simp [execOp, ho]
  · cases h

theorem sim_load {t : TypeId} {sz : Option Nat} {x : X} {y : Operand} (ho : o.op = .load t y) (hx : opdOk gl y x = true) (ht : szOk P t sz = true) : OpR P gl o (do_load sz x) := by
  intro μ S w fr a N v S' hg hR hf h
  unfold do_load at h
  split at h
  · rename_i b off hv
    split at h
    · rename_i v' hl
      obtain ⟨rfl, rfl⟩ : v' = v ∧ S = S' := by simpa using h
      obtain ⟨L, hL, he⟩ := evX_ptr hx hg hf hv
      obtain ⟨u, hu, hr⟩ := r_loadVar (P := P) hR ht hL hl
      exact .pure hR (u := u) (by simp [execOp, ho, Instr.loadAt, Instr.sureAddr, he, hu]) hr
    · cases h
  · cases h

theorem flat_tup {v : AV} (h : flat v = true) : ∀ l, v ≠ .tup l := fun l e => by subst e; simp [flat] at h

theorem sim_store {t : TypeId} {sz : Nat} {x z : X} {y yv : Operand} (ho : o.op = .store t y yv) (hx : opdOk gl y x = true) (hz : opdOk gl yv z = true) (ht : sizeIs P t sz = true) : OpR P gl o (do_store sz x z) := by
  intro μ S w fr a N v S' hg hR hf h
  unfold do_store at h
  split at h
  · rename_i b off val hv hw
    split at h
    · rename_i hlen
      split at h
      · rename_i S1 hs
        obtain ⟨rfl, rfl⟩ : AV.tup [] = v ∧ S1 = S' := by simpa using h
        obtain ⟨L, hL, he⟩ := evX_ptr hx hg hf hv
        have hr := opd_vr hz hg hf hw
        have hc := hr.cells
        have hln := hc.length
        obtain ⟨w', h1, h2, h3⟩ := store_cells (P := P) hR hs hL hc (hr.cells_scal (flat_tup hlen.2))
        refine .skip h2 h3 ?_
        have hsz : (a.eval yv).cells.size = sz := by rw [← hlen.1, ← Array.length_toList, hln]
        simp [execOp, ho, Instr.storeAt, Instr.sureAddr, he, storeVar, sizeIs_run ht, hsz, h1]
      · cases h
    · cases h
  · cases h

def fieldOff (P : Program) (s : TypeId) (i off : Nat) : Bool := match P.underlying s with
  | some (.struct fs) => match fs[i]? with
    | some f => f.offset == off && (match P.info? f.type with | some j => j.size != 0 | none => false)
    | none => false
  | _ => false
theorem sim_fieldA {s : TypeId} {i off : Nat} {x : X} {y : Operand} (ho : o.op = .fieldAddr s y i) (hx : opdOk gl y x = true) (ht : fieldOff P s i off = true) : OpR P gl o (do_fieldA off x) := by
  intro μ S w fr a N v S' hg hR hf h
  unfold do_fieldA at h
  split at h
  · rename_i b o' hv
    obtain ⟨rfl, rfl⟩ : AV.ptr b (o' + off) = v ∧ S = S' := by simpa using h
    obtain ⟨L, hL, he⟩ := evX_ptr hx hg hf hv
    unfold fieldOff at ht
    split at ht <;> try (cases ht; done)
    rename_i fs hu
    split at ht <;> try (cases ht; done)
    rename_i f hfi
    simp only [Bool.and_eq_true, beq_iff_eq] at ht
    obtain ⟨rfl, ht⟩ := ht
    split at ht <;> try (cases ht; done)
    rename_i j hj
    have hj0 : j.size ≠ 0 := by simpa using ht
    refine .pure hR (u := .pointer (some ⟨L.blk, L.off + (o' + f.offset), none⟩)) ?_ (.ptr hL)
    simp [execOp, ho, Instr.fieldAt, r_underlying hu, hfi, Instr.sureAddr, he, fieldPlace, r_sizeOf hj, hj0, add_at, Nat.add_assoc]
  · cases h

theorem sim_nilchk {x : X} {y : Operand} (ho : o.op = .nilCheck y) (hx : opdOk gl y x = true) : OpR P gl o (do_nilchk x) := by
  intro μ S w fr a N v S' hg hR hf h
  unfold do_nilchk at h
  split at h
  · rename_i b o' hv
    obtain ⟨rfl, rfl⟩ : AV.ptr b o' = v ∧ S = S' := by simpa using h
    obtain ⟨L, hL, he⟩ := evX_ptr hx hg hf hv
    exact .pure hR (u := a.eval y) (by simp [execOp, ho, he]) (by rw [he]; exact .ptr hL)
  · rename_i f c hv
    obtain ⟨rfl, rfl⟩ : AV.fn f c = v ∧ S = S' := by simpa using h
    have := opd_vr hx hg hf hv
    refine .pure hR (u := a.eval y) ?_ this
    cases hx : a.eval y <;> rw [hx] at this <;> cases this
    simp [execOp, ho, hx]
  · rename_i t c hv
    obtain ⟨rfl, rfl⟩ : AV.iface t c = v ∧ S = S' := by simpa using h
    have := opd_vr hx hg hf hv
    refine .pure hR (u := a.eval y) ?_ this
    cases hx : a.eval y <;> rw [hx] at this <;> cases this
    simp [execOp, ho, hx]
  · cases h

def sliceOf (P : Program) (t : TypeId) (es : Nat) : Bool := match P.underlying t with
  | some (.slice e) => sizeIs P e es
  | _ => false
theorem sliceOf_spec {P : Program} {t : TypeId} {es : Nat} (h : sliceOf P t es = true) : ∃ e, P.underlying t = some (.slice e) ∧ ∀ w, (sizeOf e).run P w = .ok es w := by
  unfold sliceOf at h
  split at h <;> try (cases h; done)
  exact ⟨_, ‹_›, sizeIs_run h⟩

theorem sim_idxS {t : TypeId} {es : Nat} {x i : X} {y z : Operand} (ho : o.op = .indexAddr t y z) (hx : opdOk gl y x = true) (hi : opdOk gl z i = true) (ht : sliceOf P t es = true) : OpR P gl o (do_idxS es x i) := by
  intro μ S w fr a N v S' hg hR hf h
  unfold do_idxS at h
  split at h
  · rename_i b off len cap k n hv hw
    split at h
    · rename_i hn
      obtain ⟨rfl, rfl⟩ : AV.ptr b (off + n.toNat * es) = v ∧ S = S' := by simpa using h
      obtain ⟨L, co, cc, hL, he, _, hco, _, _⟩ := evX_slc hx hg hf hv
      have hei := evX_int hi hg hf hw
      obtain ⟨e, hu, hs⟩ := sliceOf_spec ht
      have : co = L.off + off := hco (by omega)
      subst this
      refine .pure hR (u := .pointer (some ⟨L.blk, L.off + (off + n.toNat * es), none⟩)) ?_ (.ptr hL)
      simp [execOp, ho, Instr.indexAt, hei, asIntOf, r_underlying hu, he, hn, hs, add_at, Nat.add_assoc]
    · cases h
  · cases h

theorem wr_eq (k : IntKind) (n : Int) : wr k n = k.wrap n := by
  unfold wr
  cases hk : inK k n with
  | false => rfl
  | true =>
    show n = k.wrap n
    unfold inK at hk
    unfold IntKind.wrap IntKind.bits IntKind.signed
    split at hk <;> first | (cases hk; done) | (simp only [Nat.ble_eq] at hk; simp; omega)

def isShift : BinOp → Bool
  | .shl | .shr => true
  | _ => false

theorem intBin_bin {op : BinOp} {k : IntKind} {m n : Int} {v : AV} (h : intBin op k m n = some v) (t : TypeId) (w : World) :
    ∃ u, (binOp op t (.int k m) (.int k n)).run P w = .ok u w ∧ ∀ μ, VR μ v u := by
  unfold intBin at h
  split at h
  · obtain rfl := Option.some.inj h; exact ⟨.int k (k.wrap (m + n)), by simp [binOp, Op.intArith], fun μ => by rw [wr_eq]; exact .int _ _⟩
  · obtain rfl := Option.some.inj h; exact ⟨.int k (k.wrap (m - n)), by simp [binOp, Op.intArith], fun μ => by rw [wr_eq]; exact .int _ _⟩
  · obtain rfl := Option.some.inj h; exact ⟨.int k (k.wrap (m * n)), by simp [binOp, Op.intArith], fun μ => by rw [wr_eq]; exact .int _ _⟩
  · split at h
    · cases h
    · rename_i hn; obtain rfl := Option.some.inj h; exact ⟨.int k (k.wrap (m.tdiv n)), by simp [binOp, Op.intDiv, hn], fun μ => by rw [wr_eq]; exact .int _ _⟩
  · split at h
    · cases h
    · rename_i hn; obtain rfl := Option.some.inj h; exact ⟨.int k (m.tmod n), by simp [binOp, Op.intDiv, hn], fun μ => .int _ _⟩
  · obtain rfl := Option.some.inj h; exact ⟨.bool (m == n), by simp [binOp, Op.intCmp], fun μ => .bool _⟩
  · obtain rfl := Option.some.inj h; exact ⟨.bool (m != n), by simp [binOp, Op.intCmp], fun μ => .bool _⟩
  · obtain rfl := Option.some.inj h; exact ⟨.bool (m < n), by simp [binOp, Op.intCmp], fun μ => .bool _⟩
  · obtain rfl := Option.some.inj h; exact ⟨.bool (m ≤ n), by simp [binOp, Op.intCmp], fun μ => .bool _⟩
  · obtain rfl := Option.some.inj h; exact ⟨.bool (m > n), by simp [binOp, Op.intCmp], fun μ => .bool _⟩
  · obtain rfl := Option.some.inj h; exact ⟨.bool (m ≥ n), by simp [binOp, Op.intCmp], fun μ => .bool _⟩
  · obtain rfl := Option.some.inj h; exact ⟨_, by unfold binOp; simp only [ne_eq, not_true_eq_false, ite_false, Op.intBits]; rfl, fun μ => .int _ _⟩
  · obtain rfl := Option.some.inj h; exact ⟨_, by unfold binOp; simp only [ne_eq, not_true_eq_false, ite_false, Op.intBits]; rfl, fun μ => .int _ _⟩
  · obtain rfl := Option.some.inj h; exact ⟨_, by unfold binOp; simp only [ne_eq, not_true_eq_false, ite_false, Op.intBits]; rfl, fun μ => .int _ _⟩
  · obtain rfl := Option.some.inj h; exact ⟨_, by unfold binOp; simp only [ne_eq, not_true_eq_false, ite_false, Op.intBits]; rfl, fun μ => .int _ _⟩
  · cases h

theorem shiftBin_bin {op : BinOp} {k j : IntKind} {m n : Int} {v : AV} (h : shiftBin op k m n = some v) (t : TypeId) (w : World) :
    ∃ u, (binOp op t (.int k m) (.int j n)).run P w = .ok u w ∧ ∀ μ, VR μ v u := by
  unfold shiftBin at h
  split at h
  · cases h
  rename_i hn
  split at h
  · obtain rfl := Option.some.inj h; exact ⟨.int k (k.wrap (m * 2 ^ (min n.toNat k.bits))), by simp [binOp, Op.shift, hn], fun μ => .int _ _⟩
  · obtain rfl := Option.some.inj h; exact ⟨.int k (m.fdiv (2 ^ (min n.toNat k.bits))), by simp [binOp, Op.shift, hn], fun μ => .int _ _⟩
  · cases h

theorem guard_int (op : BinOp) (t : TypeId) (y z : Operand) (k j : IntKind) (m n : Int) (w : World) : (eqGuard op t y z (.int k m) (.int j n)).run P w = .ok () w := by unfold eqGuard; cases op <;> simp

theorem sim_ibin {op : BinOp} {t ty : TypeId} {x x' : X} {y z : Operand} (ho : o.op = .binOp op t y z ty) (hx : opdOk gl y x = true) (hx' : opdOk gl z x' = true) : OpR P gl o (do_ibin op x x') := by
  intro μ S w fr a N v S' hg hR hf h
  unfold do_ibin at h
  split at h
  · rename_i k m j n hv hw
    have e1 := evX_int hx hg hf hv
    have e2 := evX_int hx' hg hf hw
    split at h
    · split at h
      · rename_i v' hb
        obtain ⟨rfl, rfl⟩ : v' = v ∧ S = S' := by simpa using h
        obtain ⟨u, hu, hr⟩ := shiftBin_bin (P := P) (j := j) hb t w
        exact .pure hR (u := u) (by simp [execOp, ho, e1, e2, guard_int, hu]) (hr μ)
      · cases h
    · split at h
      · rename_i v' hb
        obtain ⟨rfl, rfl⟩ : v' = v ∧ S = S' := by simpa using h
        obtain ⟨u, hu, hr⟩ := shiftBin_bin (P := P) (j := j) hb t w
        exact .pure hR (u := u) (by simp [execOp, ho, e1, e2, guard_int, hu]) (hr μ)
      · cases h
    · split at h
      · rename_i hkj
        subst hkj
        split at h
        · rename_i v' hb
          obtain ⟨rfl, rfl⟩ : v' = v ∧ S = S' := by simpa using h
          obtain ⟨u, hu, hr⟩ := intBin_bin (P := P) hb t w
          exact .pure hR (u := u) (by simp [execOp, ho, e1, e2, guard_int, hu]) (hr μ)
        · cases h
      · cases h
  · rename_i u0 v0 hne hv hw
    split at h
    · rename_i k c ts j d us s1 s2
      split at h
      · rename_i hkj
        subst hkj
        split at h
        · rename_i r hb
          obtain ⟨rfl, rfl⟩ : r = v ∧ S = S' := by simpa using h
          obtain ⟨o1, e1⟩ := symOf_vr s1 (opd_vr hx hg hf hv)
          obtain ⟨o2, e2⟩ := symOf_vr s2 (opd_vr hx' hg hf hw)
          obtain ⟨r', b1, b2⟩ := symBin_ev hb o1 o2
          obtain ⟨u, hu, hr⟩ := intBin_bin (P := P) b1 t w
          exact .pure hR (u := u) (by simp [execOp, ho, e1, e2, guard_int, hu]) (b2 μ u (hr μ))
        · cases h
      · cases h
    · cases h
  · cases h

/-! ### The first group's check -/
def chkA (P : Program) (gl : List Nat) (o : Oper) : OpA → Bool
  | .mov x => match o.op with
    | .move y => opdOk gl y x
    | .assign y => opdOk gl y x
    | _ => false
  | .load sz x => match o.op with
    | .load t y => opdOk gl y x && szOk P t sz
    | _ => false
  | .store sz x v => match o.op with
    | .store t y z => opdOk gl y x && opdOk gl z v && sizeIs P t sz
    | _ => false
  | .fieldA off x => match o.op with
    | .fieldAddr s y i => opdOk gl y x && fieldOff P s i off
    | _ => false
  | .idxS es x i => match o.op with
    | .indexAddr t y z => opdOk gl y x && opdOk gl z i && sliceOf P t es
    | _ => false
  | .nilchk x => match o.op with
    | .nilCheck y => opdOk gl y x
    | _ => false
  | .ibin op x y => match o.op with
    | .binOp op' _ z z' _ => op == op' && opdOk gl z x && opdOk gl z' y
    | _ => false

theorem simA {P : Program} {gl : List Nat} {o : Oper} {p : OpA} (h : chkA P gl o p = true) : OpR P gl o (stepA p) := by
  cases p <;> simp only [chkA] at h <;> split at h <;> (try (cases h; done)) <;> (try simp only [Bool.and_eq_true, beq_iff_eq] at h)
  · exact sim_mov (.inl ‹_›) h
  · exact sim_mov (.inr ‹_›) h
  · exact sim_load ‹_› h.1 h.2
  · exact sim_store ‹_› h.1.1 h.1.2 h.2
  · exact sim_fieldA ‹_› h.1 h.2
  · exact sim_idxS ‹_› h.1.1 h.1.2 h.2
  · exact sim_nilchk ‹_› h
  · obtain ⟨⟨rfl, h1⟩, h2⟩ := h; exact sim_ibin ‹_› h1 h2
end Go.Ab
