/-
  REGIONS THAT DRAW THEIR ORDER, FIRST PART: what an operation looks at; classes of operations.
-/
import Derived.Test.YtnhfopfmgodllaaAbRun
namespace Go.Ab
open Go
set_option linter.unusedSectionVars false
variable [Inhabited Unknowns]

mutual
theorem AV.same_eq : ∀ {a b : AV}, AV.same a b = true → a = b
  | .bool _, b, h => by cases b <;> simp_all [AV.same]
  | .int _ _, b, h => by cases b <;> simp_all [AV.same]
  | .sym _ _ _, b, h => by cases b <;> simp_all [AV.same]
  | .str _, b, h => by cases b <;> simp_all [AV.same]
  | .nilp, b, h => by cases b <;> simp_all [AV.same]
  | .ptr _ _, b, h => by cases b <;> simp_all [AV.same]
  | .nils, b, h => by cases b <;> simp_all [AV.same]
  | .slc _ _ _ _, b, h => by cases b <;> simp_all [AV.same]
  | .nilm, b, h => by cases b <;> simp_all [AV.same]
  | .map _, b, h => by cases b <;> simp_all [AV.same]
  | .fn f l, b, h => by
    cases b <;> simp only [AV.same, Bool.and_eq_true, beq_iff_eq, Bool.false_eq_true] at h
    rw [h.1, AV.sames_eq h.2]
  | .nilFn, b, h => by cases b <;> simp_all [AV.same]
  | .iface t v, b, h => by
    cases b <;> simp only [AV.same, Bool.and_eq_true, beq_iff_eq, Bool.false_eq_true] at h
    rw [h.1, AV.same_eq h.2]
  | .nilIface, b, h => by cases b <;> simp_all [AV.same]
  | .agg l, b, h => by
    cases b <;> simp only [AV.same, Bool.false_eq_true] at h
    rw [AV.sames_eq h]
  | .tup l, b, h => by
    cases b <;> simp only [AV.same, Bool.false_eq_true] at h
    rw [AV.sames_eq h]
theorem AV.sames_eq : ∀ {a b : List AV}, AV.sames a b = true → a = b
  | [], [], _ => rfl
  | [], _ :: _, h => by simp [AV.sames] at h
  | _ :: _, [], h => by simp [AV.sames] at h
  | a :: l, b :: m, h => by
    simp only [AV.sames, Bool.and_eq_true] at h
    rw [AV.same_eq h.1, AV.sames_eq h.2]
end

/-! ### What an operation looks at -/
def X.uses : X → List Nat
  | .t n => [n]
  | .c _ => []
def usesL : List X → List Nat
  | [] => []
  | x :: l => x.uses ++ usesL l
def usesP : List (Nat × Nat × X) → List Nat
  | [] => []
  | (_, _, x) :: l => x.uses ++ usesP l
def usesO : Option X → List Nat
  | none => []
  | some x => x.uses
def OpA.uses : OpA → List Nat
  | .mov x => x.uses
  | .load _ x => x.uses
  | .store _ x v => x.uses ++ v.uses
  | .fieldA _ x => x.uses
  | .idxS _ x i => x.uses ++ i.uses
  | .nilchk x => x.uses
  | .ibin _ x y => x.uses ++ y.uses
def OpB.uses : OpB → List Nat
  | .pick c a b => c.uses ++ a.uses ++ b.uses
  | .extract x _ => x.uses
  | .lenS x => x.uses
  | .box x => x.uses
  | .build _ ps => usesP ps
  | .bslice _ _ ps => usesP ps
  | .append _ _ x y => x.uses ++ y.uses
  | .eq _ _ x y => x.uses ++ y.uses
def OpC.uses : OpC → List Nat
  | .un _ x => x.uses
  | .convInt _ x => x.uses
  | .sbin _ x y => x.uses ++ y.uses
  | .alloc _ => []
  | .fieldV _ _ x => x.uses
  | .idxStr x i => x.uses ++ i.uses
  | .lenStr x => x.uses
  | .mkSlice _ _ _ l c => l.uses ++ c.uses
  | .slc _ x lo hi mx => x.uses ++ usesO lo ++ usesO hi ++ usesO mx
def OpD.uses : OpD → List Nat
  | .idxA _ _ x i => x.uses ++ i.uses
  | .idxV _ _ _ x i => x.uses ++ i.uses
  | .convStr x => x.uses
  | .s2b x => x.uses
  | .b2s x => x.uses
  | .i2s x => x.uses
  | .mkIface _ x => x.uses
  | .mkFn _ c => usesL c
  | .mkMap => []
def OpE.uses : OpE → List Nat
  | .slcA _ _ x lo hi => x.uses ++ usesO lo ++ usesO hi
  | .slcStr x lo hi => x.uses ++ usesO lo ++ usesO hi
  | .lookup _ _ m k _ => m.uses ++ k.uses
  | .mapUpd _ m k v => m.uses ++ k.uses ++ v.uses
  | .range x => x.uses
  | .next x => x.uses
  | .lenM x => x.uses
  | .lenC _ => []
def OpF.uses : OpF → List Nat
  | .eqS _ _ x y => x.uses ++ y.uses
  | .copy _ x y => x.uses ++ y.uses
  | .clear _ _ x => x.uses
  | .mins l => usesL l
  | .maxs l => usesL l
  | .recheck d _ x => d :: x.uses
  | .bad _ => []
def AOp.uses : AOp → List Nat
  | .a o => o.uses
  | .b o => o.uses
  | .c o => o.uses
  | .d o => o.uses
  | .e o => o.uses
  | .f o => o.uses
  | .callF _ l => usesL l
  | .callV x l => x.uses ++ usesL l
  | .invoke x _ l => x.uses ++ usesL l
def AI.uses (i : AI) : List Nat := (match i.g with | some (t, _) => [t] | none => []) ++ i.op.uses

def Agree (l : List Nat) (fr fr' : Fr) : Prop := ∀ t ∈ l, fr.get t = fr'.get t
theorem Agree.left {l m : List Nat} {fr fr' : Fr} (h : Agree (l ++ m) fr fr') : Agree l fr fr' := fun t ht => h t (List.mem_append_left _ ht)
theorem Agree.right {l m : List Nat} {fr fr' : Fr} (h : Agree (l ++ m) fr fr') : Agree m fr fr' := fun t ht => h t (List.mem_append_right _ ht)
theorem evX_agree {fr fr' : Fr} : ∀ {x : X}, Agree x.uses fr fr' → evX fr x = evX fr' x
  | .t n, h => h n (by simp [X.uses])
  | .c _, _ => rfl
theorem evXs_agree {fr fr' : Fr} : ∀ {l : List X}, Agree (usesL l) fr fr' → evXs fr l = evXs fr' l
  | [], _ => rfl
  | x :: l, h => by simp only [evXs, evX_agree h.left, evXs_agree h.right]
theorem evParts_agree {fr fr' : Fr} : ∀ {l : List (Nat × Nat × X)}, Agree (usesP l) fr fr' → evParts fr l = evParts fr' l
  | [], _ => rfl
  | (_, _, x) :: l, h => by simp only [evParts, evX_agree h.left, evParts_agree h.right]
theorem evO_agree {fr fr' : Fr} : ∀ {x : Option X}, Agree (usesO x) fr fr' → evO fr x = evO fr' x
  | none, _ => rfl
  | some x, h => by simp only [evO, evX_agree h]

theorem stepA_agree {op : OpA} {fr fr' : Fr} (h : Agree op.uses fr fr') (S : St) : stepA op fr S = stepA op fr' S := by
  cases op <;> simp only [OpA.uses] at h
  case mov => simp only [stepA, do_mov, evX_agree h]
  case load => simp only [stepA, do_load, evX_agree h]
  case store => simp only [stepA, do_store, evX_agree h.left, evX_agree h.right]
  case fieldA => simp only [stepA, do_fieldA, evX_agree h]
  case idxS => simp only [stepA, do_idxS, evX_agree h.left, evX_agree h.right]
  case nilchk => simp only [stepA, do_nilchk, evX_agree h]
  case ibin => simp only [stepA, do_ibin, evX_agree h.left, evX_agree h.right]
theorem stepB_agree {op : OpB} {fr fr' : Fr} (h : Agree op.uses fr fr') (S : St) : stepB op fr S = stepB op fr' S := by
  cases op <;> simp only [OpB.uses] at h
  case pick => simp only [stepB, do_pick, evX_agree h.left.left, evX_agree h.left.right, evX_agree h.right]
  case extract => simp only [stepB, do_extract, evX_agree h]
  case lenS => simp only [stepB, do_lenS, evX_agree h]
  case box => simp only [stepB, do_box, evX_agree h]
  case build => simp only [stepB, do_build, evParts_agree h]
  case bslice => simp only [stepB, do_bslice, evParts_agree h]
  case append => simp only [stepB, do_append, evX_agree h.left, evX_agree h.right]
  case eq => simp only [stepB, do_eq, evX_agree h.left, evX_agree h.right]
theorem stepC_agree {op : OpC} {fr fr' : Fr} (h : Agree op.uses fr fr') (S : St) : stepC op fr S = stepC op fr' S := by
  cases op <;> simp only [OpC.uses] at h
  case un => simp only [stepC, do_un, evX_agree h]
  case convInt => simp only [stepC, do_convInt, evX_agree h]
  case sbin => simp only [stepC, do_sbin, evX_agree h.left, evX_agree h.right]
  case alloc => simp only [stepC, do_alloc]
  case fieldV => simp only [stepC, do_fieldV, evX_agree h]
  case idxStr => simp only [stepC, do_idxStr, evX_agree h.left, evX_agree h.right]
  case lenStr => simp only [stepC, do_lenStr, evX_agree h]
  case mkSlice => simp only [stepC, do_mkSlice, evX_agree h.left, evX_agree h.right]
  case slc => simp only [stepC, do_slc, evX_agree h.left.left.left, evO_agree h.left.left.right, evO_agree h.left.right, evO_agree h.right]
theorem stepD_agree {op : OpD} {fr fr' : Fr} (h : Agree op.uses fr fr') (S : St) : stepD op fr S = stepD op fr' S := by
  cases op <;> simp only [OpD.uses] at h
  case idxA => simp only [stepD, do_idxA, evX_agree h.left, evX_agree h.right]
  case idxV => simp only [stepD, do_idxV, evX_agree h.left, evX_agree h.right]
  case convStr => simp only [stepD, do_convStr, evX_agree h]
  case s2b => simp only [stepD, do_s2b, evX_agree h]
  case b2s => simp only [stepD, do_b2s, evX_agree h]
  case i2s => simp only [stepD, do_i2s, evX_agree h]
  case mkIface => simp only [stepD, do_mkIface, evX_agree h]
  case mkFn => simp only [stepD, do_mkFn, evXs_agree h]
  case mkMap => simp only [stepD, do_mkMap]
theorem stepE_agree {op : OpE} {fr fr' : Fr} (h : Agree op.uses fr fr') (S : St) : stepE op fr S = stepE op fr' S := by
  cases op <;> simp only [OpE.uses] at h
  case slcA => simp only [stepE, do_slcA, evX_agree h.left.left, evO_agree h.left.right, evO_agree h.right]
  case slcStr => simp only [stepE, do_slcStr, evX_agree h.left.left, evO_agree h.left.right, evO_agree h.right]
  case lookup => simp only [stepE, do_lookup, evX_agree h.left, evX_agree h.right]
  case mapUpd => simp only [stepE, do_mapUpd, evX_agree h.left.left, evX_agree h.left.right, evX_agree h.right]
  case range => simp only [stepE, do_range, evX_agree h]
  case next => simp only [stepE, do_next, evX_agree h]
  case lenM => simp only [stepE, do_lenM, evX_agree h]
  case lenC => simp only [stepE, do_lenC]
theorem stepF_agree {op : OpF} {fr fr' : Fr} (h : Agree op.uses fr fr') (S : St) : stepF op fr S = stepF op fr' S := by
  cases op <;> simp only [OpF.uses] at h
  case eqS => simp only [stepF, do_eqS, evX_agree h.left, evX_agree h.right]
  case copy => simp only [stepF, do_copy, evX_agree h.left, evX_agree h.right]
  case clear => simp only [stepF, do_clear, evX_agree h]
  case mins => simp only [stepF, do_mins, evXs_agree h]
  case maxs => simp only [stepF, do_maxs, evXs_agree h]
  case recheck d sz x =>
    have h1 : fr.get d = fr'.get d := h d (by simp)
    have h2 : Agree x.uses fr fr' := fun t ht => h t (by simp [ht])
    simp only [stepF, do_recheck, h1, evX_agree h2]
  case bad => rfl
theorem runI_agree {methods : List (Nat × Nat × Nat)} {call : Nat → List AV → St → Option (AV × St)} {op : AOp} {fr fr' : Fr} (h : Agree op.uses fr fr') (S : St) : runI methods call op fr S = runI methods call op fr' S := by
  cases op <;> simp only [AOp.uses] at h
  case a => exact stepA_agree h S
  case b => exact stepB_agree h S
  case c => exact stepC_agree h S
  case d => exact stepD_agree h S
  case e => exact stepE_agree h S
  case f => exact stepF_agree h S
  case callF => simp only [runI, evXs_agree h]
  case callV => simp only [runI, evX_agree h.left, evXs_agree h.right]
  case invoke => simp only [runI, evX_agree h.left, evXs_agree h.right]

/-! ### Classes -/
/-- 0: it looks at no block; 1: it looks at blocks; 2: it makes a new block; 3: it may turn blocks; 4: no operation of the code. -/
def AOp.cls : AOp → Nat
  | .a (.load _ _) => 1
  | .a (.store _ _ _) => 3
  | .a _ => 0
  | .b (.box _) => 2
  | .b (.bslice _ _ _) => 2
  | .b (.append _ _ _ _) => 3
  | .b _ => 0
  | .c (.alloc _) => 2
  | .c (.mkSlice _ _ _ _ _) => 2
  | .c (.slc _ _ _ _ _) => 1
  | .c _ => 0
  | .d (.s2b _) => 2
  | .d (.b2s _) => 1
  | .d .mkMap => 2
  | .d _ => 0
  | .e (.lookup _ _ _ _ _) => 1
  | .e (.mapUpd _ _ _ _) => 3
  | .e (.range _) => 2
  | .e (.next _) => 3
  | .e (.lenM _) => 1
  | .e _ => 0
  | .f (.copy _ _ _) => 3
  | .f (.clear _ _ _) => 3
  | .f (.recheck _ _ _) => 4
  | .f (.bad _) => 4
  | .f _ => 0
  | .callF _ _ => 3
  | .callV _ _ => 3
  | .invoke _ _ _ => 3

def Fresh (S : St) : Prop := ∀ b o, S.heap.get b = some o → b < S.next
/-- New blocks only. -/
def Ext (S S' : St) : Prop := S.next ≤ S'.next ∧ ∀ b, b < S.next → S'.heap.get b = S.heap.get b
theorem Ext.refl (S : St) : Ext S S := ⟨Nat.le_refl _, fun _ _ => rfl⟩
theorem Ext.trans {S S' S'' : St} (h : Ext S S') (k : Ext S' S'') : Ext S S'' := ⟨Nat.le_trans h.1 k.1, fun b hb => by rw [k.2 b (Nat.lt_of_lt_of_le hb h.1), h.2 b hb]⟩
theorem Ext.got {S S' : St} (h : Ext S S') (hf : Fresh S) {b : Nat} {o : AObj} (e : S.heap.get b = some o) : S'.heap.get b = some o := by rw [h.2 b (hf _ _ e), e]
theorem new_get (S : St) (o : AObj) (b : Nat) : (new S o).heap.get b = if b = S.next then some o else S.heap.get b := by simp [new, Tr.get_put]
theorem new_ext (S : St) (o : AObj) : Ext S (new S o) := ⟨by simp [new], fun b hb => by rw [new_get, if_neg (by omega)]⟩
theorem new_fresh {S : St} (o : AObj) (h : Fresh S) : Fresh (new S o) := fun b o' e => by
  rw [new_get] at e
  split at e
  · simp [new]; omega
  · have := h _ _ e; simp [new]; omega

variable {methods : List (Nat × Nat × Nat)} {call : Nat → List AV → St → Option (AV × St)}

theorem pureA {op : OpA} {fr : Fr} {S : St} {r : AV × St} (hc : (AOp.a op).cls = 0) (h : stepA op fr S = some r) : r.2 = S ∧ ∀ S2, stepA op fr S2 = some (r.1, S2) := by
  cases op <;> simp only [AOp.cls] at hc <;> (try (cases hc; done))
  case mov => simp only [stepA, do_mov] at h ⊢; (repeat' split at h) <;> (try (cases h; done)) <;> (cases h; simp_all)
  case fieldA => simp only [stepA, do_fieldA] at h ⊢; (repeat' split at h) <;> (try (cases h; done)) <;> (cases h; simp_all)
  case idxS => simp only [stepA, do_idxS] at h ⊢; (repeat' split at h) <;> (try (cases h; done)) <;> (cases h; simp_all)
  case nilchk => simp only [stepA, do_nilchk] at h ⊢; (repeat' split at h) <;> (try (cases h; done)) <;> (cases h; simp_all)
  case ibin => simp only [stepA, do_ibin] at h ⊢; (repeat' split at h) <;> (try (cases h; done)) <;> (cases h; simp_all)
theorem pureB {op : OpB} {fr : Fr} {S : St} {r : AV × St} (hc : (AOp.b op).cls = 0) (h : stepB op fr S = some r) : r.2 = S ∧ ∀ S2, stepB op fr S2 = some (r.1, S2) := by
  cases op <;> simp only [AOp.cls] at hc <;> (try (cases hc; done))
  case pick => simp only [stepB, do_pick] at h ⊢; (repeat' split at h) <;> (try (cases h; done)) <;> (cases h; simp_all)
  case extract => simp only [stepB, do_extract] at h ⊢; (repeat' split at h) <;> (try (cases h; done)) <;> (cases h; simp_all)
  case lenS => simp only [stepB, do_lenS] at h ⊢; (repeat' split at h) <;> (try (cases h; done)) <;> (cases h; simp_all)
  case build => simp only [stepB, do_build] at h ⊢; (repeat' split at h) <;> (try (cases h; done)) <;> (cases h; simp_all)
  case eq => simp only [stepB, do_eq] at h ⊢; (repeat' split at h) <;> (try (cases h; done)) <;> (cases h; simp_all)
theorem pureC {op : OpC} {fr : Fr} {S : St} {r : AV × St} (hc : (AOp.c op).cls = 0) (h : stepC op fr S = some r) : r.2 = S ∧ ∀ S2, stepC op fr S2 = some (r.1, S2) := by
  cases op <;> simp only [AOp.cls] at hc <;> (try (cases hc; done))
  case un => simp only [stepC, do_un] at h ⊢; (repeat' split at h) <;> (try (cases h; done)) <;> (cases h; simp_all)
  case convInt => simp only [stepC, do_convInt] at h ⊢; (repeat' split at h) <;> (try (cases h; done)) <;> (cases h; simp_all)
  case sbin => simp only [stepC, do_sbin] at h ⊢; (repeat' split at h) <;> (try (cases h; done)) <;> (cases h; simp_all)
  case fieldV => simp only [stepC, do_fieldV] at h ⊢; (repeat' split at h) <;> (try (cases h; done)) <;> (cases h; simp_all)
  case idxStr => simp only [stepC, do_idxStr] at h ⊢; (repeat' split at h) <;> (try (cases h; done)) <;> (cases h; simp_all)
  case lenStr => simp only [stepC, do_lenStr] at h ⊢; (repeat' split at h) <;> (try (cases h; done)) <;> (cases h; simp_all)
theorem pureD {op : OpD} {fr : Fr} {S : St} {r : AV × St} (hc : (AOp.d op).cls = 0) (h : stepD op fr S = some r) : r.2 = S ∧ ∀ S2, stepD op fr S2 = some (r.1, S2) := by
  cases op <;> simp only [AOp.cls] at hc <;> (try (cases hc; done))
  case idxA => simp only [stepD, do_idxA] at h ⊢; (repeat' split at h) <;> (try (cases h; done)) <;> (cases h; simp_all)
  case idxV => simp only [stepD, do_idxV] at h ⊢; (repeat' split at h) <;> (try (cases h; done)) <;> (cases h; simp_all)
  case convStr => simp only [stepD, do_convStr] at h ⊢; (repeat' split at h) <;> (try (cases h; done)) <;> (cases h; simp_all)
  case i2s => simp only [stepD, do_i2s] at h ⊢; (repeat' split at h) <;> (try (cases h; done)) <;> (cases h; simp_all)
  case mkIface => simp only [stepD, do_mkIface] at h ⊢; (repeat' split at h) <;> (try (cases h; done)) <;> (cases h; simp_all)
  case mkFn => simp only [stepD, do_mkFn] at h ⊢; (repeat' split at h) <;> (try (cases h; done)) <;> (cases h; simp_all)
theorem pureE {op : OpE} {fr : Fr} {S : St} {r : AV × St} (hc : (AOp.e op).cls = 0) (h : stepE op fr S = some r) : r.2 = S ∧ ∀ S2, stepE op fr S2 = some (r.1, S2) := by
  cases op <;> simp only [AOp.cls] at hc <;> (try (cases hc; done))
  case slcA => simp only [stepE, do_slcA] at h ⊢; (repeat' split at h) <;> (try (cases h; done)) <;> (cases h; simp_all)
  case slcStr => simp only [stepE, do_slcStr] at h ⊢; (repeat' split at h) <;> (try (cases h; done)) <;> (cases h; simp_all)
  case lenC => simp only [stepE, do_lenC] at h ⊢; (repeat' split at h) <;> (try (cases h; done)) <;> (cases h; simp_all)
theorem pureF {op : OpF} {fr : Fr} {S : St} {r : AV × St} (hc : (AOp.f op).cls = 0) (h : stepF op fr S = some r) : r.2 = S ∧ ∀ S2, stepF op fr S2 = some (r.1, S2) := by
  cases op <;> simp only [AOp.cls] at hc <;> (try (cases hc; done))
  case eqS => simp only [stepF, do_eqS] at h ⊢; (repeat' split at h) <;> (try (cases h; done)) <;> (cases h; simp_all)
  case mins => simp only [stepF, do_mins] at h ⊢; (repeat' split at h) <;> (try (cases h; done)) <;> (cases h; simp_all)
  case maxs => simp only [stepF, do_maxs] at h ⊢; (repeat' split at h) <;> (try (cases h; done)) <;> (cases h; simp_all)
theorem runI_pure {op : AOp} {fr : Fr} {S : St} {r : AV × St} (hc : op.cls = 0) (h : runI methods call op fr S = some r) : r.2 = S ∧ ∀ S2, runI methods call op fr S2 = some (r.1, S2) := by
  cases op with
  | a op => exact pureA hc h
  | b op => exact pureB hc h
  | c op => exact pureC hc h
  | d op => exact pureD hc h
  | e op => exact pureE hc h
  | f op => exact pureF hc h
  | callF => simp [AOp.cls] at hc
  | callV => simp [AOp.cls] at hc
  | invoke => simp [AOp.cls] at hc

theorem cellsOf_ext {S S2 : St} (he : Ext S S2) (hf : Fresh S) {b : Nat} {c : List AV} (h : cellsOf S b = some c) : cellsOf S2 b = some c := by
  unfold cellsOf at *
  split at h
  · rename_i h1; rw [he.got hf h1]; exact h
  · cases h
theorem loadA_ext {S S2 : St} (he : Ext S S2) (hf : Fresh S) {b o : Nat} {sz : Option Nat} {v : AV} (h : loadA S b o sz = some v) : loadA S2 b o sz = some v := by
  unfold loadA at *
  split at h
  · rename_i h1; rw [cellsOf_ext he hf h1]; exact h
  · cases h
theorem sliceCells_ext {S S2 : St} (he : Ext S S2) (hf : Fresh S) {es : Nat} {v : AV} {c : List AV} (h : sliceCells S es v = some c) : sliceCells S2 es v = some c := by
  unfold sliceCells at *
  split at h
  · exact h
  · exact h
  · split at h
    · rename_i h1; rw [cellsOf_ext he hf h1]; exact h
    · cases h
  · exact h
  · cases h

theorem runI_read {op : AOp} {fr : Fr} {S : St} {r : AV × St} (hc : op.cls = 1) (h : runI methods call op fr S = some r) : r.2 = S ∧ ∀ S2, Ext S S2 → Fresh S → runI methods call op fr S2 = some (r.1, S2) := by
  cases op with
  | a op =>
    cases op <;> simp only [AOp.cls] at hc <;> (try (cases hc; done))
    simp only [runI, stepA, do_load] at h ⊢
    split at h <;> (try (cases h; done))
    split at h <;> (try (cases h; done))
    rename_i b o hx _ v hv
    cases h
    refine ⟨rfl, fun S2 he hf => ?_⟩
    simp only [loadA_ext he hf hv]
  | b op => cases op <;> simp [AOp.cls] at hc
  | c op =>
    cases op <;> simp only [AOp.cls] at hc <;> (try (cases hc; done))
    simp only [runI, stepC, do_slc] at h ⊢
    split at h
    · (repeat' split at h) <;> (try (cases h; done)) <;> (cases h; simp_all)
    · split at h
      · (repeat' split at h) <;> (try (cases h; done)) <;> (cases h; simp_all)
      · split at h <;> (try (cases h; done))
        rename_i hb
        have key : ∀ S2, Ext S S2 → Fresh S → S2.heap.get _ = some _ := fun S2 he hf => he.got hf hb
        (repeat' split at h) <;> (try (cases h; done)) <;> (cases h; refine ⟨rfl, fun S2 he hf => ?_⟩; have := key S2 he hf; simp_all)
    · cases h
  | d op =>
    cases op <;> simp only [AOp.cls] at hc <;> (try (cases hc; done))
    simp only [runI, stepD, do_b2s] at h ⊢
    split at h <;> (try (cases h; done))
    rename_i v hx
    split at h <;> (try (cases h; done))
    rename_i c hne hsc
    split at h <;> (try (cases h; done))
    cases h
    refine ⟨rfl, fun S2 he hf => ?_⟩
    simp only [sliceCells_ext he hf hsc]
    simp_all
  | e op =>
    cases op <;> simp only [AOp.cls] at hc <;> (try (cases hc; done))
    case lookup =>
      simp only [runI, stepE, do_lookup] at h ⊢
      split at h <;> (try (cases h; done))
      · cases h; simp_all
      · split at h <;> (try (cases h; done))
        rename_i hb
        have key : ∀ S2, Ext S S2 → Fresh S → S2.heap.get _ = some _ := fun S2 he hf => he.got hf hb
        (repeat' split at h) <;> (try (cases h; done)) <;> (cases h; refine ⟨rfl, fun S2 he hf => ?_⟩; have := key S2 he hf; simp_all)
    case lenM =>
      simp only [runI, stepE, do_lenM] at h ⊢
      split at h <;> (try (cases h; done))
      · cases h; simp_all
      · split at h <;> (try (cases h; done))
        rename_i hb
        have key : ∀ S2, Ext S S2 → Fresh S → S2.heap.get _ = some _ := fun S2 he hf => he.got hf hb
        (repeat' split at h) <;> (try (cases h; done)) <;> (cases h; refine ⟨rfl, fun S2 he hf => ?_⟩; have := key S2 he hf; simp_all)
  | f op => cases op <;> simp [AOp.cls] at hc
  | callF => simp [AOp.cls] at hc
  | callV => simp [AOp.cls] at hc
  | invoke => simp [AOp.cls] at hc

/-- The value that names a new block. -/
inductive Names : (Nat → AV) → Prop where
  | ptr : Names fun b => .ptr b 0
  | slc (n : Nat) (c : Option Nat) : Names fun b => .slc b 0 n c
  | map : Names fun b => .map b

theorem runI_alloc {op : AOp} {fr : Fr} {S : St} {r : AV × St} (hc : op.cls = 2) (h : runI methods call op fr S = some r) : ∃ obj mk, Names mk ∧ r = (mk S.next, new S obj) ∧ ∀ S2, runI methods call op fr S2 = some (mk S2.next, new S2 obj) := by
  cases op with
  | a op => cases op <;> simp [AOp.cls] at hc
  | b op =>
    cases op <;> simp only [AOp.cls] at hc <;> (try (cases hc; done))
    case box =>
      simp only [runI, stepB, do_box] at h ⊢
      split at h <;> (try (cases h; done))
      split at h <;> (try (cases h; done))
      cases h
      exact ⟨_, _, .ptr, rfl, fun S2 => by simp_all⟩
    case bslice =>
      simp only [runI, stepB, do_bslice] at h ⊢
      split at h <;> (try (cases h; done))
      split at h <;> (try (cases h; done))
      cases h
      exact ⟨_, _, .slc _ _, rfl, fun S2 => by simp_all⟩
  | c op =>
    cases op <;> simp only [AOp.cls] at hc <;> (try (cases hc; done))
    case alloc =>
      simp only [runI, stepC, do_alloc] at h ⊢
      cases h
      exact ⟨_, _, .ptr, rfl, fun S2 => rfl⟩
    case mkSlice =>
      simp only [runI, stepC, do_mkSlice] at h ⊢
      split at h <;> (try (cases h; done))
      split at h <;> (try (cases h; done))
      cases h
      exact ⟨_, _, .slc _ _, rfl, fun S2 => by simp_all⟩
  | d op =>
    cases op <;> simp only [AOp.cls] at hc <;> (try (cases hc; done))
    case s2b =>
      simp only [runI, stepD, do_s2b] at h ⊢
      split at h <;> (try (cases h; done))
      cases h
      exact ⟨_, _, .slc _ _, rfl, fun S2 => by simp_all⟩
    case mkMap =>
      simp only [runI, stepD, do_mkMap] at h ⊢
      cases h
      exact ⟨_, _, .map, rfl, fun S2 => rfl⟩
  | e op =>
    cases op <;> simp only [AOp.cls] at hc <;> (try (cases hc; done))
    simp only [runI, stepE, do_range] at h ⊢
    split at h <;> (try (cases h; done))
    cases h
    exact ⟨_, _, .ptr, rfl, fun S2 => by simp_all⟩
  | f op => cases op <;> simp [AOp.cls] at hc
  | callF => simp [AOp.cls] at hc
  | callV => simp [AOp.cls] at hc
  | invoke => simp [AOp.cls] at hc
end Go.Ab
