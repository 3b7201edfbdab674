/-
  REGIONS, CALLS, CODE: a run of the abstract machine is a run of the model.
-/
import Derived.Test.YtnhfopfmgodllaaAbOpsH
import Derived.Orders
namespace Go.Ab
open Go
set_option linter.unusedSectionVars false
variable [Inhabited Unknowns]
variable {P : Program} {gl : List Nat}

/-! ### Calls -/
def CallR (P : Program) (f : FuncId) (args : Array Value) (w : World) (R : Value → World → Prop) : Prop :=
  match (callFunc f args).run P w with
  | .ok (.value v) w' => R v w'
  | .ok (.enter f' as) w' => Calls P f' as w' fun e w'' => ∃ v, e = .returned v ∧ R v w''
  | _ => False

/-- What a call came to. -/
def Back (μ : Mu) (S : St) (w : World) (v : AV) (S' : St) (u : Value) (w' : World) : Prop := ∃ μ', VR μ' v u ∧ Rel μ' S' w' ∧ Stp μ S w μ' S' w'

/-- The calls that the machine makes are sound. -/
def CallS (P : Program) (gl : List Nat) (call : Nat → List AV → St → Option (AV × St)) : Prop :=
  ∀ f vs S v S', call f vs S = some (v, S') → ∀ μ w (args : Array Value), GR gl μ → Rel μ S w → VRs μ vs args.toList → CallR P f args w (Back μ S w v S')

def MethS (P : Program) (names : List String) (methods : List (Nat × Nat × Nat)) : Prop :=
  ∀ t m f, methodOf methods t m = some f → ∃ name, names[m]? = some name ∧ ∀ a w, (method (P.types.size + Made.depth) t (.pointer (some a)) name).run P w = .ok (f, .pointer (some a)) w

def chkOp (P : Program) (gl : List Nat) (names : List String) (o : Oper) : AOp → Bool
  | .a p => chkA P gl o p
  | .b p => chkB P gl o p
  | .c p => chkC P gl o p
  | .d p => chkD P gl o p
  | .e p => chkE P gl o p
  | .f p => chkF P gl o p
  | .callF f args => match o.op with
    | .call ⟨.value (.func g), ys, _⟩ => f == g && opdsOk gl ys.toList args
    | _ => false
  | .callV x args => match o.op with
    | .call ⟨.value y, ys, _⟩ => opdOk gl y x && opdsOk gl ys.toList args
    | _ => false
  | .invoke x m args => match o.op with
    | .call ⟨.invoke y name, ys, _⟩ => opdOk gl y x && opdsOk gl ys.toList args && names[m]? == some name
    | _ => false

/-- One operation. -/
theorem run_op {names : List String} {methods : List (Nat × Nat × Nat)} (hm : MethS P names methods) {call : Nat → List AV → St → Option (AV × St)} (hcall : CallS P gl call) {o : Oper} {op : AOp} (hk : chkOp P gl names o op = true)
    {μ : Mu} {S : St} {w : World} {fr : Fr} {a : Act} {N : Nat} {v : AV} {S' : St} (hg : GR gl μ) (hR : Rel μ S w) (hf : FrR μ N fr a.tmps) (h : runI methods call op fr S = some (v, S'))
    {next : Act → World → Prop} {Q : Exit → Act → World → Prop} (hn : ∀ u w', Back μ S w v S' u w' → next (a.put o.dst u) w') : o.wp P a w next Q := by
  have plain : Came μ S w ((execOp a.eval o).run P w) v S' → o.wp P a w next Q := fun hc => by
    obtain ⟨μ', w', u, hr, hv, hr', hs⟩ := hc
    unfold Oper.wp
    rcases hr with hr | ⟨hr, rfl⟩ <;> rw [hr] <;> exact hn _ _ ⟨μ', hv, hr', hs⟩
  have called : ∀ {f : FuncId} {args : Array Value}, (execOp a.eval o).run P w = (callFunc f args).run P w → CallR P f args w (Back μ S w v S') → o.wp P a w next Q := fun {f args} he hc => by
    unfold Oper.wp
    rw [he]
    unfold CallR at hc
    split at hc
    · rename_i u w' hr; rw [hr]; exact hn _ _ hc
    · rename_i f' as w' hr
      rw [hr]
      show Calls P f' as w' _
      exact hc.mono fun e w'' ⟨u, he, hb⟩ => by subst he; exact hn _ _ hb
    · cases hc
  cases op with
  | a p => exact plain (simA hk hg hR hf h)
  | b p => exact plain (simB hk hg hR hf h)
  | c p => exact plain (simC hk hg hR hf h)
  | d p => exact plain (simD hk hg hR hf h)
  | e p => exact plain (simE hk hg hR hf h)
  | f p => exact plain (simF hk hg hR hf h)
  | callF f args =>
    simp only [chkOp] at hk
    split at hk <;> (try (cases hk; done))
    rename_i g ys ts ho
    simp only [Bool.and_eq_true, beq_iff_eq] at hk
    obtain ⟨rfl, hk⟩ := hk
    simp only [runI] at h
    split at h <;> (try (cases h; done))
    rename_i vs hvs
    have hv := opds_vrs hg hf hk hvs
    refine called (f := f) (args := ys.map a.eval) ?_ (hcall _ _ _ _ _ h μ w _ hg hR (by simpa using hv))
    simp [execOp, ho, resolve, Act.eval, Deferred.ofValue, invoke]
  | callV x args =>
    simp only [chkOp] at hk
    split at hk <;> (try (cases hk; done))
    rename_i y ys ts ho
    simp only [Bool.and_eq_true] at hk
    simp only [runI] at h
    split at h <;> (try (cases h; done))
    rename_i f cap vs hx hvs
    have hv := opds_vrs hg hf hk.2 hvs
    have hfn := opd_vr hk.1 hg hf hx
    cases hy : a.eval y <;> rw [hy] at hfn <;> cases hfn
    rename_i capV hcap
    refine called (f := f) (args := ys.map a.eval ++ capV) ?_ (hcall _ _ _ _ _ h μ w _ hg hR (by simpa using hv.append hcap))
    simp [execOp, ho, resolve, hy, Deferred.ofValue, invoke]
  | invoke x m args =>
    simp only [chkOp] at hk
    split at hk <;> (try (cases hk; done))
    rename_i y name ys ts ho
    simp only [Bool.and_eq_true, beq_iff_eq] at hk
    obtain ⟨⟨k1, k2⟩, k3⟩ := hk
    simp only [runI] at h
    split at h <;> (try (cases h; done))
    rename_i t b off vs hx hvs
    split at h <;> (try (cases h; done))
    rename_i f hme
    have hv := opds_vrs hg hf k2 hvs
    have hfn := opd_vr k1 hg hf hx
    cases hy : a.eval y <;> rw [hy] at hfn <;> cases hfn
    rename_i u hu
    cases hu
    rename_i L hL
    obtain ⟨name', n1, n2⟩ := hm _ _ _ hme
    rw [k3] at n1; obtain rfl := Option.some.inj n1
    refine called (f := f) (args := #[.pointer (some ⟨L.blk, L.off + off, none⟩)] ++ ys.map a.eval) ?_ (hcall _ _ _ _ _ h μ w _ hg hR (by simpa using VRs.cons (VR.ptr hL) hv))
    have e1 : (#[Value.iface t (.pointer (some ⟨L.blk, L.off + off, none⟩))] ++ ys.map a.eval)[0]? = some (Value.iface t (.pointer (some ⟨L.blk, L.off + off, none⟩))) := by simp [Array.getElem?_append]
    have e2 : (#[Value.iface t (.pointer (some ⟨L.blk, L.off + off, none⟩))] ++ ys.map a.eval).extract 1 ((#[Value.iface t (.pointer (some ⟨L.blk, L.off + off, none⟩))] ++ ys.map a.eval).size) = ys.map a.eval := by simp
    have e3 : (invoke (.fn (.method name) #[]) (#[Value.iface t (.pointer (some ⟨L.blk, L.off + off, none⟩))] ++ ys.map a.eval)).run P w = (callFunc f (#[.pointer (some ⟨L.blk, L.off + off, none⟩)] ++ ys.map a.eval)).run P w := by
      simp only [invoke, e1, e2, callMethod]
      simp [n2]
    rw [← e3]
    simp [execOp, ho, resolve, hy]

/-! ### Regions in the order of the text -/
def guardOk (ops : Array Oper) : Option (Nat × Bool) → Option (Nat × Bool) → Bool
  | none, none => true
  | some (j, want), some (t, want') => want == want' && ((ops[j]?).bind (·.dst)) == some t
  | _, _ => false

def dstOk (N : Nat) : Option Tmp → Option Nat → Bool
  | none, none => true
  | some d, some t => d == t && decide (t < N)
  | _, _ => false

def chkI (P : Program) (gl : List Nat) (names : List String) (ops : Array Oper) (N : Nat) (o : Oper) (i : AI) : Bool :=
  dstOk N o.dst i.dst && guardOk ops o.guard i.g && chkOp P gl names o i.op

theorem dstOk_spec {N : Nat} {d : Option Tmp} {t : Option Nat} (h : dstOk N d t = true) : d = t ∧ ∀ x, t = some x → x < N := by
  unfold dstOk at h
  split at h
  · exact ⟨rfl, by simp⟩
  · simp at h; obtain ⟨rfl, h⟩ := h; exact ⟨rfl, fun x e => by cases e; exact h⟩
  · cases h

theorem FrR.put {μ : Mu} {N : Nat} {fr : Fr} {a : Act} (hf : FrR μ N fr a.tmps) {d : Option Nat} (hd : ∀ x, d = some x → x < N) {v : AV} {u : Value} (hv : VR μ v u) : FrR μ N (putD fr d (some v)) (a.put d u).tmps := by
  cases d with
  | none => exact hf
  | some t =>
    have ht := hd t rfl
    have hs := hf.size
    refine ⟨by simp [Act.put, hs], fun n v' e => ?_⟩
    simp only [putD, Tr.get_put] at e
    simp only [Act.put]
    split at e
    · rename_i hn; subst hn
      obtain rfl := Option.some.inj e
      exact ⟨u, Array.getElem?_setIfInBounds_self_of_lt (by omega), hv⟩
    · rename_i hn
      obtain ⟨u', h1, h2⟩ := hf.get n v' e
      exact ⟨u', by rw [Array.getElem?_setIfInBounds_ne (Ne.symm hn)]; exact h1, h2⟩

theorem wanted_run {ops : Array Oper} {o : Oper} {i : AI} (h : guardOk ops o.guard i.g = true) {μ : Mu} {N : Nat} {fr : Fr} {a : Act} (hf : FrR μ N fr a.tmps) :
    (i.g = none → Region.wanted o (yielded ops a.tmps) = true) ∧ (∀ t want b, i.g = some (t, want) → fr.get t = some (.bool b) → Region.wanted o (yielded ops a.tmps) = (b == want)) ∧
    (∀ t want, i.g = some (t, want) → fr.get t = some (.tup []) → Region.wanted o (yielded ops a.tmps) = false) := by
  unfold guardOk at h
  split at h
  · rename_i h1 h2
    refine ⟨fun _ => by simp [Region.wanted, h1], fun t want b e => ?_, fun t want e => ?_⟩ <;> rw [h2] at e <;> cases e
  · rename_i j want t want' h1 h2
    simp only [Bool.and_eq_true, beq_iff_eq] at h
    obtain ⟨rfl, hd⟩ := h
    refine ⟨fun e => (by rw [h2] at e; cases e), fun t' want' b e hb => ?_, fun t' want' e hb => ?_⟩
    · rw [h2] at e; cases e
      obtain ⟨u, hu, hv⟩ := hf.get t _ hb
      cases hv
      simp only [Region.wanted, h1, yielded, hd, Option.bind_some, hu]
      cases b <;> cases want <;> rfl
    · rw [h2] at e; cases e
      obtain ⟨u, hu, hv⟩ := hf.get t _ hb
      cases hv
      simp only [Region.wanted, h1, yielded, hd, Option.bind_some, hu]
      rfl
  · cases h

/-- What a stretch of code came to. -/
def Went (μ : Mu) (S : St) (w : World) (N : Nat) (fr' : Fr) (S' : St) (a' : Act) (w' : World) : Prop := ∃ μ', FrR μ' N fr' a'.tmps ∧ a'.defers = [] ∧ Rel μ' S' w' ∧ Stp μ S w μ' S' w'

/-- One operation, with its guard. -/
theorem run_one {names : List String} {methods : List (Nat × Nat × Nat)} (hm : MethS P names methods) {call : Nat → List AV → St → Option (AV × St)} (hcall : CallS P gl call) {ops : Array Oper} {N : Nat} {o : Oper} {i : AI} (hk : chkI P gl names ops N o i = true)
    {μ : Mu} {S : St} {w : World} {fr : Fr} {a : Act} (hg : GR gl μ) (hR : Rel μ S w) (hf : FrR μ N fr a.tmps) (hd : a.defers = []) {nx : Fr → St → Option (Fr × St)} {r : Fr × St} (h : runOne methods call i nx fr S = some r)
    {K : Act → World → Prop} {Q : Exit → Act → World → Prop} (hn : ∀ fr1 S1 a1 w1 μ1, nx fr1 S1 = some r → FrR μ1 N fr1 a1.tmps → a1.defers = [] → Rel μ1 S1 w1 → Stp μ S w μ1 S1 w1 → K a1 w1) :
    if Region.wanted o (yielded ops a.tmps) then o.wp P a w K Q else K (a.put o.dst undef) w := by
  simp only [chkI, Bool.and_eq_true] at hk
  obtain ⟨⟨k1, k2⟩, k3⟩ := hk
  obtain ⟨ed, hlt⟩ := dstOk_spec k1
  obtain ⟨w1, w2, w3⟩ := wanted_run k2 hf
  have go : runG methods call i nx fr S = some r → o.wp P a w K Q := fun h => by
    unfold runG at h
    split at h
    · rename_i v S1 hr
      refine run_op hm hcall k3 hg hR hf hr fun u w' hb => ?_
      obtain ⟨μ', b1, b2, b3⟩ := hb
      refine hn _ _ _ _ μ' h ?_ ?_ b2 b3
      · rw [ed]; exact (hf.mono b3.le).put hlt b1
      · rw [ed]; cases i.dst <;> exact hd
    · cases h
  have skip : nx (putD fr i.dst (some (.tup []))) S = some r → K (a.put o.dst undef) w := fun h => by
    refine hn _ _ _ _ μ h ?_ ?_ hR (Stp.refl _ _ _)
    · rw [ed]; exact hf.put hlt (.tup .nil)
    · rw [ed]; cases i.dst <;> exact hd
  unfold runOne at h
  split at h
  · rename_i e; rw [w1 e, if_pos rfl]; exact go h
  · rename_i t want e
    split at h
    · rename_i b hb
      rw [w2 t want b e hb]
      split at h
      · rename_i hq; rw [hq, if_pos rfl]; exact go h
      · rename_i hq; rw [hq]; simp only [Bool.false_eq_true, if_false]; exact skip h
    · rename_i hb
      rw [w3 t want e hb]; simp only [Bool.false_eq_true, if_false]; exact skip h
    · cases h

def chkSeq (P : Program) (gl : List Nat) (names : List String) (ops : Array Oper) (N : Nat) : List Oper → List AI → Bool
  | [], [] => true
  | o :: os, i :: is => chkI P gl names ops N o i && chkSeq P gl names ops N os is
  | _, _ => false

theorem seq_ops {names : List String} {methods : List (Nat × Nat × Nat)} (hm : MethS P names methods) {call : Nat → List AV → St → Option (AV × St)} (hcall : CallS P gl call) {ops : Array Oper} {N : Nat} {Q : Exit → Act → World → Prop} : ∀ (os : List Oper) (is : List AI) (k : Nat), (∀ j, os[j]? = ops[k + j]?) → chkSeq P gl names ops N os is = true →
    ∀ {μ : Mu} {S : St} {w : World} {fr : Fr} {a : Act} {fr' : Fr} {S' : St}, GR gl μ → Rel μ S w → FrR μ N fr a.tmps → a.defers = [] → runIs methods call is fr S = some (fr', S') →
    (∀ a' w', Went μ S w N fr' S' a' w' → Q .normal a' w') → wpOps P ops Q (List.range' k os.length) a w
  | [], [], k, _, _, μ, S, w, fr, a, fr', S', hg, hR, hf, hd, h, hQ => by
    obtain ⟨rfl, rfl⟩ : fr = fr' ∧ S = S' := by simpa [runIs] using h
    exact hQ _ _ ⟨μ, hf, hd, hR, Stp.refl _ _ _⟩
  | o :: os, i :: is, k, hl, hc, μ, S, w, fr, a, fr', S', hg, hR, hf, hd, h, hQ => by
    simp only [chkSeq, Bool.and_eq_true] at hc
    have h0 : ops[k]? = some o := by simpa using (hl 0).symm
    have key := run_one (K := wpOps P ops Q (List.range' (k + 1) os.length)) (Q := Q) hm hcall hc.1 hg hR hf hd (nx := runIs methods call is) (r := (fr', S')) h fun fr1 S1 a1 w1 μ1 e1 e2 e3 e4 e5 =>
      seq_ops hm hcall os is (k + 1) (fun j => by have := hl (j + 1); simpa [Nat.add_assoc, Nat.add_comm 1 j] using this) hc.2 (hg.mono e5.le) e4 e2 e3 e1 fun a' w' ⟨μ2, f1, f2, f3, f4⟩ => hQ _ _ ⟨μ2, f1, f2, f3, e5.trans f4⟩
    simp only [List.length_cons, List.range'_succ, wpOps, h0]
    split
    · rename_i hw; rw [if_pos hw] at key; exact .inl key
    · rename_i hw; rw [if_neg hw] at key; exact key
  | [], _ :: _, _, _, hc, _, _, _, _, _, _, _, _, _, _, _, _, _ => by simp [chkSeq] at hc
  | _ :: _, [], _, _, hc, _, _, _, _, _, _, _, _, _, _, _, _, _ => by simp [chkSeq] at hc

theorem region_text {names : List String} {methods : List (Nat × Nat × Nat)} (hm : MethS P names methods) {call : Nat → List AV → St → Option (AV × St)} (hcall : CallS P gl call) {ops : Array Oper} {N : Nat} {is : List AI} (hc : chkSeq P gl names ops N ops.toList is = true)
    {μ : Mu} {S : St} {w : World} {fr : Fr} {a : Act} {fr' : Fr} {S' : St} (hg : GR gl μ) (hR : Rel μ S w) (hf : FrR μ N fr a.tmps) (hd : a.defers = []) (h : runIs methods call is fr S = some (fr', S')) {Q : Exit → Act → World → Prop} (hQ : ∀ a' w', Went μ S w N fr' S' a' w' → Q .normal a' w') (id : Nat) :
    (Code.region id ops false).wp P Q a w := by
  refine wp_region ?_
  have := seq_ops hm hcall (Q := Q) ops.toList is 0 (fun j => by simp) hc hg hR hf hd h hQ
  rwa [← List.range_eq_range', Array.length_toList] at this
end Go.Ab
