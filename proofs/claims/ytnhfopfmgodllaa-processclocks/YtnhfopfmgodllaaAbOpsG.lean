/-
  THE OPERATIONS, SEVENTH PART: arrays, functions, maps, iterators.
-/
import Derived.Test.YtnhfopfmgodllaaAbOpsF
namespace Go.Ab
open Go
set_option linter.unusedSectionVars false
variable [Inhabited Unknowns]
variable {P : Program} {gl : List Nat} {o : Oper}

def arrayOf (P : Program) (t : TypeId) (n es : Nat) : Bool := match P.underlying t with
  | some (.array m e) => m == n && sizeIs P e es
  | _ => false
theorem arrayOf_spec {t : TypeId} {n es : Nat} (h : arrayOf P t n es = true) : ∃ e, P.underlying t = some (.array n e) ∧ ∀ w, (sizeOf e).run P w = .ok es w := by
  unfold arrayOf at h
  split at h <;> try (cases h; done)
  simp only [Bool.and_eq_true, beq_iff_eq] at h
  obtain ⟨rfl, h⟩ := h
  exact ⟨_, ‹_›, sizeIs_run h⟩

theorem sim_idxA {t : TypeId} {n es : Nat} {x i : X} {y z : Operand} (ho : o.op = .indexAddr t y z) (hx : opdOk gl y x = true) (hi : opdOk gl z i = true) (ht : arrayOf P t n es = true) : OpR P gl o (do_idxA n es x i) := by
  intro μ S w fr a N v S' hg hR hf h
  unfold do_idxA at h
  split at h
  · rename_i b off k m hv hw
    split at h
    · rename_i hn
      obtain ⟨rfl, rfl⟩ : AV.ptr b (off + m.toNat * es) = v ∧ S = S' := by simpa using h
      obtain ⟨L, hL, he⟩ := evX_ptr hx hg hf hv
      have hei := evX_int hi hg hf hw
      obtain ⟨e, hu, hs⟩ := arrayOf_spec ht
      refine .pure hR (u := .pointer (some ⟨L.blk, L.off + (off + m.toNat * es), none⟩)) ?_ (.ptr hL)
      simp [execOp, ho, Instr.indexAt, hei, asIntOf, r_underlying hu, Instr.sureAddr, he, hn, hs, add_at, Nat.add_assoc]
    · cases h
  · cases h

def arrayVOk (P : Program) (t : TypeId) (n es : Nat) (sz : Option Nat) : Bool := match P.underlying t with
  | some (.array m e) => m == n && sizeIs P e es && szOk P e sz
  | _ => false

theorem sim_idxV {t : TypeId} {n es : Nat} {sz : Option Nat} {x i : X} {y z : Operand} (ho : o.op = .index t y z) (hx : opdOk gl y x = true) (hi : opdOk gl z i = true) (ht : arrayVOk P t n es sz = true) : OpR P gl o (do_idxV n es sz x i) := by
  intro μ S w fr a N v S' hg hR hf h
  unfold do_idxV at h
  split at h
  rotate_left
  · cases h
  rename_i c k m hv hw
  split at h
  rotate_left
  · cases h
  rename_i hn
  split at h
  rotate_left
  · cases h
  rename_i v' hp
  obtain ⟨rfl, rfl⟩ : v' = v ∧ S = S' := by simpa using h
  obtain ⟨C, e1, vc, sc⟩ := evX_agg hx hg hf hv
  have e2 := evX_int hi hg hf hw
  unfold arrayVOk at ht
  split at ht <;> try (cases ht; done)
  rename_i m' e hu
  simp only [Bool.and_eq_true, beq_iff_eq] at ht
  obtain ⟨⟨rfl, h1⟩, h2⟩ := ht
  obtain ⟨u, hu2, hr⟩ := part_val (P := P) h2 vc sc hp w
  exact .pure hR (u := u) (by simp [execOp, ho, e1, e2, Instr.index, asIntOf, r_underlying hu, hn, sizeIs_run h1, hu2]) hr

theorem sim_convStr {s t : TypeId} {x : X} {y : Operand} (ho : o.op = .convert s t y) (hx : opdOk gl y x = true) (hs : isStr P s = true) (ht : isStr P t = true) : OpR P gl o (do_convStr x) := by
  intro μ S w fr a N v S' hg hR hf h
  unfold do_convStr at h
  split at h
  · rename_i l hv
    obtain ⟨rfl, rfl⟩ : AV.str l = v ∧ S = S' := by simpa using h
    obtain ⟨q, e1, h1⟩ := evX_str hx hg hf hv
    exact .pure hR (u := .string q) (by simp [execOp, ho, e1, convert, r_underlying (isStr_spec hs), r_underlying (isStr_spec ht)]) (.str h1)
  · cases h

def isBytes (P : Program) (t : TypeId) : Bool := match P.underlying t with
  | some (.slice e) => isInt P e .u8
  | _ => false
theorem isBytes_spec {t : TypeId} (h : isBytes P t = true) : ∃ e, P.underlying t = some (.slice e) ∧ P.underlying e = some (.int .u8) := by
  unfold isBytes at h
  split at h <;> try (cases h; done)
  exact ⟨_, ‹_›, isInt_spec h⟩

theorem modify_push {α : Type} (A : Array α) (x : α) (f : α → α) : (A.push x).modify A.size f = A.push (f x) := by
  apply Array.ext
  · simp
  · intro i h1 h2
    rw [Array.getElem_modify, Array.getElem_push, Array.getElem_push]
    split
    · rename_i e; subst e; simp
    · rename_i e
      have : i < A.size := by simp at h2; omega
      simp [this]

theorem sim_s2b {s t : TypeId} {x : X} {y : Operand} (ho : o.op = .convert s t y) (hx : opdOk gl y x = true) (hs : isStr P s = true) (ht : isBytes P t = true) : OpR P gl o (do_s2b x) := by
  intro μ S w fr a N v S' hg hR hf h
  unfold do_s2b at h
  split at h
  rotate_left
  · cases h
  rename_i l hv
  obtain ⟨rfl, rfl⟩ : AV.slc S.next 0 l.length none = v ∧ new S (.cells (some 1) false (u8s l)) = S' := by simpa [u8s] using h
  obtain ⟨q, e1, h1⟩ := evX_str hx hg hf hv
  obtain ⟨e, hu, he⟩ := isBytes_spec ht
  have hln := str_len h1
  have hq : (Question.appendCap q.size 0 e).forced = false := rfl
  have hge : q.size ≤ (Question.appendCap q.size 0 e).cut (w.tape w.drawn (.appendCap q.size 0 e)) := by simp [Question.cut]
  generalize hcap : (Question.appendCap q.size 0 e).cut (w.tape w.drawn (.appendCap q.size 0 e)) = cap at hge
  -- the new block, and its mark
  let C : Array Value := (q.data.map fun b => Value.int .u8 b.toNat) ++ Array.replicate (cap - q.size) (.int .u8 0)
  have hC : C.size = cap := by simp [C]; have : q.data.size = q.size := rfl; omega
  let w' : World := (w.drew.alloc (.cells C e (0, 0))).freeze ⟨w.heap.size, cap, none⟩ 1
  have hheap : w'.heap = (w.drew.alloc (.cells C e (cap, cap + 1))).heap := by
    have := modify_push w.heap (.cells C e (0, 0)) fun o => match o with
      | .cells c elem (lo, hi) => .cells c elem (if lo == hi then (cap, cap + 1) else (min lo cap, max hi (cap + 1)))
      | o => o
    exact this
  have hrun : (execOp a.eval o).run P w = .ok (.value (.slice (some ⟨w.heap.size, 0, none⟩) q.size cap)) w' := by
    have hsh : (w.drew.alloc (.cells C e (0, 0))).shape? w.heap.size = some (e, cap) := by
      have h0 : (w.drew.alloc (.cells C e (0, 0))).heap[w.heap.size]? = some (.cells C e (0, 0)) := World.heap_alloc_new w.drew _
      unfold World.shape?
      rw [h0]
      show some (e, C.size) = some (e, cap)
      rw [hC]
    simp only [execOp, ho, e1, convert, r_underlying (isStr_spec hs), r_underlying hu, r_underlying he, Sem.run_bind, Result.andThen_ok, Conv.stringToBytes, run_choose, hq, Bool.false_eq_true, if_false, hcap, newRow, run_newObj, Sem.run_pure, markStringish, run_shape, World.drew_eq, World.alloc_eq, World.size_drew]
    rw [show (w.drew.alloc (.cells ((q.data.map fun b => Value.int .u8 b.toNat) ++ Array.replicate (cap - q.size) (.int .u8 0)) e (0, 0))).shape? w.heap.size = some (e, cap) from hsh]
    simp only [run_freeze, Result.andThen_ok]
    rfl
  have hR' := hR.drew
  have hvs : VRs μ (u8s l) (q.data.toList.map fun b => Value.int .u8 b.toNat) := by rw [← h1]; exact u8s_vrs
  obtain ⟨k1, k2⟩ := hR'.alloc (o := .cells (some 1) false (u8s l)) (O := .cells C e (cap, cap + 1)) (L := ⟨w.heap.size, 0, cap, 1⟩) (w' := w') rfl
    (by rw [hheap]; exact World.heap_alloc_new _ _) (fun k hk => by rw [hheap]; exact RowKit.Below.heap_alloc _ _ _ hk) (by rw [hheap]; simp) rfl rfl rfl (by
      refine .cells hC (by rw [hC]; simp [u8s]; omega) ?_ (u8s_scal _) (fun _ i hi hle => by simp at hle ⊢; omega) (by simp) (fun es x => by simpa using x)
      have := hvs.mono (Mu.add_le ⟨w.heap.size, 0, cap, 1⟩ hR.noNext)
      have e5 : (C.toList.drop 0).take (u8s l).length = q.data.toList.map fun b => Value.int .u8 b.toNat := by
        have : q.data.size = q.size := rfl
        simp only [List.drop_zero, C, Array.toList_append]
        rw [List.take_append_of_le_length (by simp [u8s]; omega), List.take_of_length_le (by simp [u8s]; omega)]
        simp
      rw [e5]; exact this)
  refine ⟨_, w', _, .inl hrun, ?_, k1, Stp.trans (Stp.drew (μ := μ) (S := S) (w := w)) k2⟩
  rw [hln]
  exact VR.slcU (L := ⟨w.heap.size, 0, cap, 1⟩) (o := 0) (co := 0) (Mu.add_same _ _ _) hge (fun _ => rfl) (by simp)

theorem sim_i2s {s t : TypeId} {k : IntKind} {x : X} {y : Operand} (ho : o.op = .convert s t y) (hx : opdOk gl y x = true) (hs : isInt P s k = true) (ht : isStr P t = true) : OpR P gl o (do_i2s x) := by
  intro μ S w fr a N v S' hg hR hf h
  unfold do_i2s at h
  split at h
  · rename_i j n hv
    obtain ⟨rfl, rfl⟩ : AV.str (utf8 n) = v ∧ S = S' := by simpa using h
    have e1 := evX_int hx hg hf hv
    exact .pure hR (u := .string (Utf8.encode n)) (by simp [execOp, ho, e1, convert, r_underlying (isInt_spec hs), r_underlying (isStr_spec ht), Conv.intToString]) (.str rfl)
  · cases h

def notIface (P : Program) (t : TypeId) : Bool := match P.underlying t with
  | some (.interface _) => false
  | some _ => true
  | none => false
theorem sim_mkIface {t : TypeId} {x : X} {y : Operand} (ho : o.op = .makeInterface t y) (hx : opdOk gl y x = true) (ht : notIface P t = true) : OpR P gl o (do_mkIface t x) := by
  intro μ S w fr a N v S' hg hR hf h
  unfold do_mkIface at h
  split at h
  · rename_i v' hv
    obtain ⟨rfl, rfl⟩ : AV.iface t v' = v ∧ S = S' := by simpa using h
    refine .pure hR (u := .iface t (a.eval y)) ?_ (.iface (opd_vr hx hg hf hv))
    unfold notIface at ht
    split at ht
    · cases ht
    · rename_i d hnd hu
      cases d <;> first | exact absurd rfl (hnd _) | simp [execOp, ho, Instr.makeInterface, r_underlying hu]
    · cases ht
  · cases h

def opdsOk (gl : List Nat) : List Operand → List X → Bool
  | [], [] => true
  | y :: l, x :: m => opdOk gl y x && opdsOk gl l m
  | _, _ => false
theorem opds_vrs {μ : Mu} (hg : GR gl μ) {N : Nat} {fr : Fr} {a : Act} (hf : FrR μ N fr a.tmps) : ∀ {ys : List Operand} {xs : List X} {vs : List AV}, opdsOk gl ys xs = true → evXs fr xs = some vs → VRs μ vs (ys.map a.eval)
  | [], [], vs, _, h => by obtain rfl : [] = vs := by simpa [evXs] using h
                           exact .nil
  | y :: ys, x :: xs, vs, hk, h => by
    simp only [opdsOk, Bool.and_eq_true] at hk
    simp only [evXs] at h
    split at h
    · rename_i v vs' hv hvs
      obtain rfl := Option.some.inj h
      exact .cons (opd_vr hk.1 hg hf hv) (opds_vrs hg hf hk.2 hvs)
    · cases h
  | [], _ :: _, _, hk, _ => by simp [opdsOk] at hk
  | _ :: _, [], _, hk, _ => by simp [opdsOk] at hk

theorem sim_mkFn {f : FuncId} {cap : List X} {caps : Array Operand} (ho : o.op = .makeFunc (.func f) #[] caps) (hx : opdsOk gl caps.toList cap = true) : OpR P gl o (do_mkFn f cap) := by
  intro μ S w fr a N v S' hg hR hf h
  unfold do_mkFn at h
  split at h
  · rename_i vs hvs
    obtain ⟨rfl, rfl⟩ : AV.fn f vs = v ∧ S = S' := by simpa using h
    exact .pure hR (u := .func (.func f) #[] (caps.map a.eval)) (by simp [execOp, ho, Instr.makeFunc]) (.fn (by simpa using opds_vrs hg hf hx hvs))
  · cases h

theorem Rel.allocObj {μ : Mu} {S : St} {w : World} (h : Rel μ S w) {o : AObj} {O : Obj} (hO : ObjR (μ.add S.next ⟨w.heap.size, 0, 0, 0⟩) ⟨w.heap.size, 0, 0, 0⟩ o O) :
    Rel (μ.add S.next ⟨w.heap.size, 0, 0, 0⟩) (new S o) (w.alloc O) ∧ Stp μ S w (μ.add S.next ⟨w.heap.size, 0, 0, 0⟩) (new S o) (w.alloc O) :=
  h.alloc (O := O) rfl (World.heap_alloc_new _ _) (fun _ hk => RowKit.Below.heap_alloc _ _ _ hk) (by simp) rfl rfl rfl hO

theorem sim_mkMap {t : TypeId} (ho : o.op = .makeMap t none) : OpR P gl o do_mkMap := by
  intro μ S w fr a N v S' hg hR hf h
  unfold do_mkMap at h
  obtain ⟨rfl, rfl⟩ : AV.map S.next = v ∧ new S (.map []) = S' := by simpa using h
  obtain ⟨k1, k2⟩ := hR.allocObj (o := .map []) (O := .map #[] 0) (.map .nil rfl)
  refine ⟨_, _, .map (some w.heap.size), .inl ?_, .map (L := ⟨w.heap.size, 0, 0, 0⟩) (Mu.add_same _ _ _), k1, k2⟩
  simp [execOp, ho, Instr.makeMap]

theorem sim_slcA {t : TypeId} {n es : Nat} {x : X} {lo hi : Option X} {y : Operand} {ylo yhi : Option Operand} (ho : o.op = .slice t y ylo yhi none) (hx : opdOk gl y x = true) (h1 : optOk gl ylo lo = true) (h2 : optOk gl yhi hi = true) (ht : arrayOf P t n es = true) : OpR P gl o (do_slcA n es x lo hi) := by
  intro μ S w fr a N v S' hg hR hf h
  obtain ⟨e, hu, hs⟩ := arrayOf_spec ht
  unfold do_slcA at h
  split at h <;> (try (cases h; done))
  rename_i b off l hh hv hlo hhi
  have o1 := opt_vr h1 hg hf hlo
  have o2 := opt_vr h2 hg hf hhi
  split at h <;> (try (cases h; done))
  rename_i h' b2
  split at h <;> (try (cases h; done))
  rename_i l' b3
  obtain ⟨rfl, rfl⟩ : AV.slc b (if n = l' then off else off + l' * es) (h' - l') (some (n - l')) = v ∧ S = S' := by simpa using h
  obtain ⟨L, hL, ey⟩ := evX_ptr hx hg hf hv
  have hh1 := bound_le b2 (Nat.le_refl _)
  have hl1 := bound_le b3 (Nat.zero_le _)
  have hb := bounds_run (P := P) (mx := none) (m := none) (m' := n) (most1 := n) (cap := n) (len := n) o1 o2 (.inl ⟨rfl, rfl⟩) (by simp) rfl (Nat.le_refl _) b2 (Nat.le_refl _) b3 false w
  refine .pure hR (u := .slice (some (if n = l' then ⟨L.blk, L.off + off, none⟩ else (⟨L.blk, L.off + off, none⟩ : Addr).add (l' * es))) (h' - l') (n - l')) ?_ ?_
  · simp only [Option.map_none] at hb
    simp only [execOp, ho, Instr.sliceAt, r_underlying hu, Sem.run_bind, Result.andThen_ok, Instr.sureAddr, ey, Sem.run_pure, Option.map_none, hb, hs]
  · by_cases e0 : n = l'
    · rw [if_pos e0, if_pos e0]; exact .slcK hL (by omega)
    · rw [if_neg e0, if_neg e0, add_at, Nat.add_assoc]; exact .slcK hL (by omega)

theorem sim_slcStr {t : TypeId} {x : X} {lo hi : Option X} {y : Operand} {ylo yhi : Option Operand} (ho : o.op = .slice t y ylo yhi none) (hx : opdOk gl y x = true) (h1 : optOk gl ylo lo = true) (h2 : optOk gl yhi hi = true) (ht : isStr P t = true) : OpR P gl o (do_slcStr x lo hi) := by
  intro μ S w fr a N v S' hg hR hf h
  unfold do_slcStr at h
  split at h <;> (try (cases h; done))
  rename_i q l hh hv hlo hhi
  have o1 := opt_vr h1 hg hf hlo
  have o2 := opt_vr h2 hg hf hhi
  split at h <;> (try (cases h; done))
  rename_i h' b2
  split at h <;> (try (cases h; done))
  rename_i l' b3
  obtain ⟨rfl, rfl⟩ : AV.str ((q.take h').drop l') = v ∧ S = S' := by simpa using h
  obtain ⟨s, ey, hs⟩ := evX_str hx hg hf hv
  have hln := str_len hs
  rw [hln] at b2
  have hb := bounds_run (P := P) (mx := none) (m := none) (m' := s.size) (most1 := s.size) (cap := s.size) (len := s.size) o1 o2 (.inl ⟨rfl, rfl⟩) (by simp) rfl (Nat.le_refl _) b2 (Nat.le_refl _) b3 false w
  simp only [Option.map_none] at hb
  refine .pure hR (u := .string (s.extract l' h')) ?_ (.str ?_)
  · simp only [execOp, ho, Instr.sliceAt, r_underlying (isStr_spec ht), Sem.run_bind, Result.andThen_ok, Instr.slice, ey, Option.map_none, Option.isSome_none, Bool.false_eq_true, if_false, hb, Sem.run_pure]
  · rw [← hs]
    have : (s.extract l' h').data = s.data.extract l' h' := by simp
    rw [this, Array.toList_extract]
    simp [List.map_drop, List.map_take, List.drop_take]

/-! ### Maps -/
def keyT (P : Program) (kd : Nat) (t : TypeId) : Bool := match P.underlying t with
  | some .bool => kd == 0
  | some (.int _) => kd == 1
  | some .string => kd == 2
  | _ => false
def keyD : Nat → TypeDesc → Bool
  | 0, .bool => true
  | 1, .int _ => true
  | 2, .string => true
  | _, _ => false
theorem keyT_spec {kd : Nat} {t : TypeId} (h : keyT P kd t = true) : ∃ d, P.underlying t = some d ∧ keyD kd d = true := by
  unfold keyT at h; split at h <;> (try (cases h; done)) <;> (rw [beq_iff_eq] at h; subst h; exact ⟨_, ‹_›, rfl⟩)

theorem checkKey_run {t : TypeId} {kd : Nat} {d : TypeDesc} (hu : P.underlying t = some d) (hd : keyD kd d = true) (e : Bool) (n : Nat) (v : Value) (w : World) : (Instr.checkKey e (n + 1) t v).run P w = .ok () w := by
  unfold Instr.checkKey
  simp only [Sem.run_bind, r_underlying hu, Result.andThen_ok]
  unfold keyD at hd
  split at hd <;> first | rfl | cases hd

theorem sameNow_run {μ : Mu} {kd : Nat} {k k' : AV} {u u' : Value} {r : Bool} (h : eqA kd k k' = some r) (h1 : VR μ k u) (h2 : VR μ k' u') {d : TypeDesc} (hd : keyD kd d = true) : Instr.sameNow d u u' = some r := by
  unfold eqA at h
  split at h <;> (try (cases h; done)) <;> (cases d <;> simp only [keyD, Bool.false_eq_true] at hd)
  · obtain rfl := Option.some.inj h; cases h1; cases h2; rfl
  · split at h
    · rename_i hjk; subst hjk; obtain rfl := Option.some.inj h; cases h1; cases h2; simp [Instr.sameNow]
    · cases h
  · obtain rfl := Option.some.inj h; cases h1; cases h2; simp only [Instr.sameNow]; rw [str_beq' ‹_› ‹_›]
  · split at h
    · rename_i k1 c ts k2 d us s1 s2
      split at h
      · rename_i hkk; subst hkk
        obtain ⟨o1, rfl⟩ := symOf_vr s1 h1
        obtain ⟨o2, rfl⟩ := symOf_vr s2 h2
        obtain ⟨z1, z2⟩ := sub_ev o1 o2
        have := zeroS_ev z2 h
        simp only [Instr.sameNow, if_true, this]
        congr 1
        rw [Bool.eq_iff_iff]; simp; omega
      · cases h
    · cases h

/-- Looking for a key. -/
theorem findNow_run {μ : Mu} {kd : Nat} {k : AV} {u : Value} (hk : VR μ k u) {d : TypeDesc} (hd : keyD kd d = true) : ∀ {es : List (AV × AV)} {fs : List MapEntry} {r : Option AV} (i : Nat), EsR μ es fs → findK kd k es = some r →
    (r = none ∧ Instr.findNow d u fs i = some none) ∨ ∃ v j e, r = some v ∧ Instr.findNow d u fs i = some (some (i + j, e.val)) ∧ fs[j]? = some e ∧ VR μ v e.val
  | [], _, r, i, .nil, h => by
    obtain rfl : none = r := by simpa [findK] using h
    exact .inl ⟨rfl, rfl⟩
  | (k', v) :: es, e :: fs, r, i, .cons hk' hv t, h => by
    simp only [findK] at h
    split at h
    · rename_i hq
      obtain rfl := Option.some.inj h
      refine .inr ⟨v, 0, e, rfl, ?_, rfl, hv⟩
      simp only [Instr.findNow, sameNow_run hq hk hk' hd]; rfl
    · rename_i hq
      rcases findNow_run hk hd (i + 1) t h with ⟨h1, h2⟩ | ⟨v', j, e', h1, h2, h3, h4⟩
      · refine .inl ⟨h1, ?_⟩
        simp only [Instr.findNow, sameNow_run hq hk hk' hd, h2]
      · refine .inr ⟨v', j + 1, e', h1, ?_, by simpa using h3, h4⟩
        simp only [Instr.findNow, sameNow_run hq hk hk' hd, h2]
        rw [show i + 1 + j = i + (j + 1) by omega]
    · cases h

theorem updNow_run {μ : Mu} {kd : Nat} {k v : AV} {u uv : Value} (hk : VR μ k u) (huv : VR μ v uv) {d : TypeDesc} (hd : keyD kd d = true) : ∀ {es es' : List (AV × AV)} {fs : List MapEntry} (i : Nat), EsR μ es fs → updK kd k v es = some es' →
    (Instr.findNow d u fs i = some none ∧ ∀ e, e.key = u → e.val = uv → EsR μ es' (fs ++ [e])) ∨ ∃ j e, Instr.findNow d u fs i = some (some (i + j, e.val)) ∧ fs[j]? = some e ∧ Instr.sameNow d u e.key = some true ∧ EsR μ es' (fs.modify j fun e => { e with key := u, val := uv })
  | [], es', _, i, .nil, h => by
    obtain rfl : [(k, v)] = es' := by simpa [updK] using h
    exact .inl ⟨rfl, fun e h1 h2 => .cons (by rw [h1]; exact hk) (by rw [h2]; exact huv) .nil⟩
  | (k', v') :: es, es', e :: fs, i, .cons hk' hv t, h => by
    simp only [updK] at h
    split at h
    · rename_i hq
      obtain rfl := Option.some.inj h
      refine .inr ⟨0, e, ?_, rfl, sameNow_run hq hk hk' hd, ?_⟩
      · simp only [Instr.findNow, sameNow_run hq hk hk' hd]; rfl
      · exact .cons hk huv t
    · rename_i hq
      split at h
      · rename_i es2 hes
        obtain rfl := Option.some.inj h
        rcases updNow_run hk huv hd (i + 1) t hes with ⟨h1, h2⟩ | ⟨j, e', h1, h2, h3, h4⟩
        · refine .inl ⟨?_, fun e0 q1 q2 => .cons hk' hv (h2 e0 q1 q2)⟩
          simp only [Instr.findNow, sameNow_run hq hk hk' hd, h1]
        · refine .inr ⟨j + 1, e', ?_, by simpa using h2, h3, .cons hk' hv h4⟩
          simp only [Instr.findNow, sameNow_run hq hk hk' hd, h1]
          rw [show i + 1 + j = i + (j + 1) by omega]
      · cases h
    · cases h

def mapT (P : Program) (t : TypeId) (kd : Nat) : Option TypeId := match P.underlying t with
  | some (.map k e) => if keyT P kd k = true then some e else none
  | _ => none
theorem mapT_spec {t e : TypeId} {kd : Nat} (h : mapT P t kd = some e) : ∃ k, P.underlying t = some (.map k e) ∧ keyT P kd k = true := by
  unfold mapT at h
  split at h <;> (try (cases h; done))
  split at h
  · obtain rfl := Option.some.inj h; exact ⟨_, ‹_›, ‹_›⟩
  · cases h

/-- A zero value, as one value. -/
def zeroVOk (P : Program) (e : TypeId) (z : AV) : Bool := match P.info? e with
  | some i => match i.zero with
    | some v => constOk v z || (match v, z with
      | .agg c, .agg l => cellsOk c.toList l
      | _, _ => false)
    | none => false
  | none => false
theorem zeroVOk_spec {e : TypeId} {z : AV} (h : zeroVOk P e z = true) : ∃ u, (∀ w, (zeroValue e).run P w = .ok u w) ∧ ∀ μ, VR μ z u := by
  unfold zeroVOk at h
  split at h <;> (try (cases h; done))
  rename_i i hi
  split at h <;> (try (cases h; done))
  rename_i v hv
  refine ⟨v, r_zero hi hv, fun μ => ?_⟩
  simp only [Bool.or_eq_true] at h
  rcases h with h | h
  · exact constOk_vr h μ
  · split at h
    · obtain ⟨h1, h2⟩ := cellsOk_vrs h μ; exact .agg h1 h2
    · cases h

theorem evX_map {y : Operand} {x : X} (h : opdOk gl y x = true) {μ : Mu} (hg : GR gl μ) {N : Nat} {fr : Fr} {a : Act} (hf : FrR μ N fr a.tmps) {b : Nat} (hv : evX fr x = some (.map b)) : ∃ L, μ b = some L ∧ a.eval y = .map (some L.blk) := by
  have := opd_vr h hg hf hv
  cases hx : a.eval y <;> rw [hx] at this <;> cases this
  exact ⟨_, ‹_›, rfl⟩
theorem evX_nilm {y : Operand} {x : X} (h : opdOk gl y x = true) {μ : Mu} (hg : GR gl μ) {N : Nat} {fr : Fr} {a : Act} (hf : FrR μ N fr a.tmps) (hv : evX fr x = some .nilm) : a.eval y = .map none := by
  have := opd_vr h hg hf hv
  cases hx : a.eval y <;> rw [hx] at this <;> cases this
  rfl

theorem getObj_run {w : World} {r : Nat} {O : Obj} (h : w.heap[r]? = some O) (hc : ∀ c e f, O ≠ .cells c e f) : (getObj r).run P w = .ok O w := by
  unfold getObj
  cases O <;> first | exact absurd rfl (hc _ _ _) | simp only [Sem.run, h]
theorem setObj_run {w : World} {r : Nat} {O O' : Obj} (h : w.heap[r]? = some O) (hc : ∀ c e f, O ≠ .cells c e f) : (setObj r O').run P w = .ok () { w with heap := w.heap.setIfInBounds r O' } := by
  unfold setObj
  cases O <;> first | exact absurd rfl (hc _ _ _) | simp only [Sem.run, h]

theorem Rel.map {μ : Mu} {S : St} {w : World} (h : Rel μ S w) {b : Nat} {L : Loc} {es : List (AV × AV)} (hb : S.heap.get b = some (.map es)) (hL : μ b = some L) : ∃ E clock, w.heap[L.blk]? = some (.map E clock) ∧ EsR μ es E.toList ∧ L.off = 0 := by
  obtain ⟨O, hO, hr⟩ := h.obj b _ L hb hL
  cases hr with
  | map h h0 => exact ⟨_, _, hO, h, h0⟩

theorem tup2 {μ : Mu} {v1 v2 : AV} {u1 u2 : Value} (h1 : VR μ v1 u1) (h2 : VR μ v2 u2) : VR μ (.tup [v1, v2]) (.tuple #[u1, u2]) := .tup (.cons h1 (.cons h2 .nil))

theorem ite_tup {ok : Bool} {μ : Mu} {v : AV} {u : Value} (b : Bool) (h : VR μ v u) : VR μ (if ok then .tup [v, .bool b] else v) (if ok then .tuple #[u, .bool b] else u) := by
  cases ok
  · exact h
  · exact tup2 h (.bool _)

theorem sim_lookup {kd : Nat} {z : AV} {m k : X} {ok : Bool} {t e : TypeId} {ym yk : Operand} (ho : o.op = .lookup t ym yk ok) (hm : opdOk gl ym m = true) (hk : opdOk gl yk k = true) (ht : mapT P t kd = some e) (hz : zeroVOk P e z = true) : OpR P gl o (do_lookup kd z m k ok) := by
  intro μ S w fr a N v S' hg hR hf h
  obtain ⟨kt, hu, hkt⟩ := mapT_spec ht
  obtain ⟨d, hkd, hd⟩ := keyT_spec hkt
  obtain ⟨uz, hz1, hz2⟩ := zeroVOk_spec hz
  unfold do_lookup at h
  split at h
  · rename_i kv hv hw
    obtain ⟨rfl, rfl⟩ : (if ok then AV.tup [z, .bool false] else z) = v ∧ S = S' := by simpa using h
    have em := evX_nilm hm hg hf hv
    refine .pure hR (u := if ok then .tuple #[uz, .bool false] else uz) ?_ (ite_tup _ (hz2 μ))
    simp [execOp, ho, em, Instr.lookup, r_underlying hu, checkKey_run hkd hd, Instr.findKey, r_underlying hkd, Instr.findNow, hz1]
  · rename_i b kv hv hw
    split at h <;> (try (cases h; done))
    rename_i es hb
    obtain ⟨L, hL, em⟩ := evX_map hm hg hf hv
    obtain ⟨E, clock, hE, hes, h0⟩ := hR.map hb hL
    have hkv := opd_vr hk hg hf hw
    have hget := getObj_run (P := P) hE (by intros; simp)
    split at h <;> (try (cases h; done))
    · rename_i v' hq
      obtain ⟨rfl, rfl⟩ : (if ok then AV.tup [v', .bool true] else v') = v ∧ S = S' := by simpa using h
      rcases findNow_run hkv hd 0 hes hq with ⟨h1, _⟩ | ⟨v2, j, en, h1, h2, h3, h4⟩
      · cases h1
      · obtain rfl := Option.some.inj h1
        refine .pure hR (u := if ok then .tuple #[en.val, .bool true] else en.val) ?_ (ite_tup _ h4)
        simp [execOp, ho, em, Instr.lookup, r_underlying hu, hget, checkKey_run hkd hd, Instr.findKey, r_underlying hkd, h2]
    · rename_i hq
      obtain ⟨rfl, rfl⟩ : (if ok then AV.tup [z, .bool false] else z) = v ∧ S = S' := by simpa using h
      rcases findNow_run hkv hd 0 hes hq with ⟨_, h2⟩ | ⟨v2, j, en, h1, _⟩
      · refine .pure hR (u := if ok then .tuple #[uz, .bool false] else uz) ?_ (ite_tup _ (hz2 μ))
        simp [execOp, ho, em, Instr.lookup, r_underlying hu, hget, checkKey_run hkd hd, Instr.findKey, r_underlying hkd, h2, hz1]
      · cases h1
  · cases h

theorem sameBits_of {d : TypeDesc} {kd : Nat} (hd : keyD kd d = true) {u u' : Value} (h : Instr.sameNow d u u' = some true) (n : Nat) : Instr.sameBits n u' u = true := by
  unfold Instr.sameNow at h
  split at h <;> (try (cases h; done))
  · split at h
    · rename_i hjk; subst hjk; simp at h; subst h; cases n <;> simp [Instr.sameBits]
    · cases h
  · rename_i a b
    simp only [Option.some.injEq] at h
    rw [beq_toListBytes, beq_iff_eq] at h
    have e : (b == a) = true := by rw [beq_toListBytes, beq_iff_eq]; exact h.symm
    cases n <;> exact e
  · simp at h; subst h; cases n <;> simp [Instr.sameBits]

theorem heap_set {w : World} {r k : Nat} {O O' : Obj} (h : w.heap[r]? = some O) : (w.heap.setIfInBounds r O')[r]? = some O' ∧ (k ≠ r → (w.heap.setIfInBounds r O')[k]? = w.heap[k]?) := by
  have hr : r < w.heap.size := by
    rcases Nat.lt_or_ge r w.heap.size with h' | h'
    · exact h'
    · rw [Array.getElem?_eq_none h'] at h; cases h
  exact ⟨Array.getElem?_setIfInBounds_self_of_lt hr, fun hk => Array.getElem?_setIfInBounds_ne (Ne.symm hk)⟩

theorem sim_mapUpd {kd : Nat} {m k x : X} {t e : TypeId} {ym yk yx : Operand} (ho : o.op = .mapUpdate t ym yk yx) (hm : opdOk gl ym m = true) (hk : opdOk gl yk k = true) (hx : opdOk gl yx x = true) (ht : mapT P t kd = some e) : OpR P gl o (do_mapUpd kd m k x) := by
  intro μ S w fr a N v S' hg hR hf h
  obtain ⟨kt, hu, hkt⟩ := mapT_spec ht
  obtain ⟨d, hkd, hd⟩ := keyT_spec hkt
  unfold do_mapUpd at h
  split at h <;> (try (cases h; done))
  rename_i b kv xv hv hw hxv
  split at h <;> (try (cases h; done))
  rename_i es hb
  split at h <;> (try (cases h; done))
  rename_i es' hq
  obtain ⟨rfl, rfl⟩ : AV.tup [] = v ∧ (⟨S.next, S.heap.put b (some (.map es'))⟩ : St) = S' := by simpa using h
  obtain ⟨L, hL, em⟩ := evX_map hm hg hf hv
  obtain ⟨E, clock, hE, hes, h0⟩ := hR.map hb hL
  have hkv := opd_vr hk hg hf hw
  have hvv := opd_vr hx hg hf hxv
  have hget := getObj_run (P := P) hE (by intros; simp)
  rcases updNow_run hkv hvv hd 0 hes hq with ⟨h1, h2⟩ | ⟨j, en, h1, h2, h3, h4⟩
  · obtain ⟨s1, s2⟩ := heap_set (k := 0) (O' := .map (E.push { key := a.eval yk, val := a.eval yx, born := clock }) (clock + 1)) hE
    obtain ⟨r1, r2⟩ := hR.setObj (w' := { w with heap := w.heap.setIfInBounds L.blk (.map (E.push { key := a.eval yk, val := a.eval yx, born := clock }) (clock + 1)) }) (o' := .map es') hb rfl rfl hL s1 (fun k hk => (heap_set (k := k) hE).2 hk) (by simp) rfl rfl rfl (.map (by rw [Array.toList_push]; exact h2 _ rfl rfl) h0)
    refine .skip r1 r2 ?_
    have hset := setObj_run (P := P) (O' := .map (E.push { key := a.eval yk, val := a.eval yx, born := clock }) (clock + 1)) hE (by intros; simp)
    simp [execOp, ho, em, Instr.mapUpdate, r_underlying hu, hget, checkKey_run hkd hd, Instr.findKey, r_underlying hkd, h1, hset]
  · have hsb := sameBits_of hd h3 10000
    obtain ⟨s1, s2⟩ := heap_set (k := 0) (O' := .map (E.modify j fun e => { e with key := a.eval yk, val := a.eval yx }) clock) hE
    obtain ⟨r1, r2⟩ := hR.setObj (w' := { w with heap := w.heap.setIfInBounds L.blk (.map (E.modify j fun e => { e with key := a.eval yk, val := a.eval yx }) clock) }) (o' := .map es') hb rfl rfl hL s1 (fun k hk => (heap_set (k := k) hE).2 hk) (by simp) rfl rfl rfl (.map (by rw [Array.toList_modify]; exact h4) h0)
    refine .skip r1 r2 ?_
    have hset := setObj_run (P := P) (O' := .map (E.modify j fun e => { e with key := a.eval yk, val := a.eval yx }) clock) hE (by intros; simp)
    have hj : E[j]? = some en := by simpa using h2
    have hstay : (Instr.keyThatStays en.key (a.eval yk)).run P w = .ok (a.eval yk) w := by simp [Instr.keyThatStays, hsb]
    simp [execOp, ho, em, Instr.mapUpdate, r_underlying hu, hget, checkKey_run hkd hd, Instr.findKey, r_underlying hkd, h1, hj, hstay, hset]
end Go.Ab
