/-
  THE OPERATIONS, SIXTH PART: what is left of equality, numbers, strings, addresses.
-/
import Derived.Test.YtnhfopfmgodllaaAbOpsE
namespace Go.Ab
open Go
set_option linter.unusedSectionVars false
variable [Inhabited Unknowns]
variable {P : Program} {gl : List Nat} {o : Oper}

theorem eqOk_op {neg : Bool} {op : BinOp} (h : (op == if neg then .neq else .eql) = true) : (neg = true ∧ op = .neq) ∨ (neg = false ∧ op = .eql) := by
  cases neg <;> simp at h <;> simp [h]

theorem notBin {x y : Value} (t : TypeId) (w : World) {r : Bool} (h : (Op.equalIn 10000 t x y).run P w = .ok r w) (hx : (∀ k n, x ≠ .int k n) ∧ (∀ s, x ≠ .string s) ∧ (∀ k n, x ≠ .float k n) ∧ (∀ k n m, x ≠ .complex k n m)) :
    (binOp .eql t x y).run P w = .ok (.bool r) w ∧ (binOp .neq t x y).run P w = .ok (.bool !r) w := by
  obtain ⟨h1, h2, h3, h4⟩ := hx
  cases x <;> (try exact absurd rfl (h1 _ _)) <;> (try exact absurd rfl (h2 _)) <;> (try exact absurd rfl (h3 _ _)) <;> (try exact absurd rfl (h4 _ _ _)) <;>
    (constructor <;> (unfold binOp; simp [Op.equal, Op.maxDepth, h]))

theorem guard_plain (op : BinOp) (t : TypeId) (y z : Operand) (a b : Value) (w : World) (h : ∀ xs, a ≠ .agg xs) (hk : a = .nilIface → b = .nilIface → (isC y || isC z) = true) : (eqGuard op t y z a b).run P w = .ok () w := by
  have key : (match a, b with
      | .nilIface, .nilIface => if (isC y || isC z) = true then (pure () : Sem Unit) else do
          if ← Op.eqGuardIn Op.maxDepth t a b then unsupported (.noEntry "binop/eql: two nil values of an interface type with methods, neither of them the literal nil")
      | .agg _, .agg _ => do
        if !(← program).eqGuardType (← program).depth t then return
        if ← Op.eqGuardIn Op.maxDepth t a b then unsupported (.noEntry "binop/eql: two nil values of an interface type with methods, in a part of a struct or an array")
      | _, _ => pure ()).run P w = .ok () w := by
    split
    · rw [if_pos (hk rfl rfl)]; rfl
    · exact absurd rfl (h _)
    · rfl
  unfold eqGuard
  cases op <;> first | rfl | (simp only [Bool.not_true, Bool.false_eq_true, if_false]; exact key)

theorem sim_eqS {neg : Bool} {ks : List Nat} {op : BinOp} {t ty : TypeId} {x x' : X} {y z : Operand} (ho : o.op = .binOp op t y z ty) (hx : opdOk gl y x = true) (hx' : opdOk gl z x' = true) (hop : (op == if neg then .neq else .eql) = true)
    (hs : isStruct P t = true) (hp : plainN P 20 t = some ks) (hgt : P.eqGuardType P.depth t = false) : OpR P gl o (do_eqS neg ks x x') := by
  intro μ S w fr a N v S' hg hR hf h
  have hop := eqOk_op hop
  unfold do_eqS at h
  split at h
  rotate_left
  · cases h
  rename_i la lb hv hw
  split at h
  rotate_left
  · cases h
  rename_i r he
  obtain ⟨rfl, rfl⟩ : AV.bool (r != neg) = v ∧ S = S' := by simpa using h
  obtain ⟨ca, e1, v1, _⟩ := evX_agg hx hg hf hv
  obtain ⟨cb, e2, v2, _⟩ := evX_agg hx' hg hf hw
  unfold isStruct at hs
  split at hs <;> try (cases hs; done)
  rename_i fs hu
  have hrun := plain_run (P := P) 20 t ks la lb ca.toList cb.toList r hp he v1 v2 10000 w (by omega)
  have q1 : ofCells P t ca.toList = .agg ca := by unfold ofCells; rw [hu]
  have q2 : ofCells P t cb.toList = .agg cb := by unfold ofCells; rw [hu]
  rw [q1, q2] at hrun
  obtain ⟨b1, b2⟩ := notBin t w hrun ⟨by simp, by simp, by simp, by simp⟩
  rcases hop with ⟨rfl, rfl⟩ | ⟨rfl, rfl⟩
  · refine .pure hR (u := .bool (!r)) ?_ (by cases r <;> exact .bool _)
    simp [execOp, ho, e1, e2, run_eqGuard_agg w .neq t y z ca cb hgt, b2]
  · refine .pure hR (u := .bool r) ?_ (by cases r <;> exact .bool _)
    simp [execOp, ho, e1, e2, run_eqGuard_agg w .eql t y z ca cb hgt, b1]

theorem sim_eq {neg : Bool} {k : Nat} {op : BinOp} {t ty : TypeId} {x x' : X} {y z : Operand} (ho : o.op = .binOp op t y z ty) (hx : opdOk gl y x = true) (hx' : opdOk gl z x' = true) (hop : (op == if neg then .neq else .eql) = true)
    (hk : kindOk P k t y z = true) : OpR P gl o (do_eq neg k x x') := by
  intro μ S w fr a N v S' hg hR hf h
  have hop := eqOk_op hop
  unfold do_eq at h
  split at h
  rotate_left
  · cases h
  rename_i va vb hv hw
  split at h
  rotate_left
  · cases h
  rename_i r he
  obtain ⟨rfl, rfl⟩ : AV.bool (r != neg) = v ∧ S = S' := by simpa using h
  have r1 := opd_vr hx hg hf hv
  have r2 := opd_vr hx' hg hf hw
  obtain ⟨d, hu, hd, n1, n2, h4⟩ := kindOk_spec hk
  have hrun := eqA_run he r1 r2 t d hu hd 9999 w
  have shape : ((∀ k n, a.eval y ≠ .int k n) ∧ (∀ s, a.eval y ≠ .string s) ∧ (∀ k n, a.eval y ≠ .float k n) ∧ (∀ k n m, a.eval y ≠ .complex k n m)) ∧ (∀ xs, a.eval y ≠ .agg xs) := by
    unfold eqA at he
    split at he <;> (try (cases he; done)) <;> (try exact absurd rfl n1) <;> (try exact absurd rfl n2) <;> (generalize a.eval y = q at r1; cases r1 <;> simp)
  have hgd : (eqGuard op t y z (a.eval y) (a.eval z)).run P w = .ok () w := guard_plain op t y z _ _ w shape.2 fun e1 e2 => by
    rw [e1] at r1; rw [e2] at r2
    cases r1; cases r2
    unfold eqA at he
    split at he <;> (try (cases he; done)) <;> first | exact h4 rfl | (rename_i q; cases q)
  obtain ⟨b1, b2⟩ := notBin t w hrun shape.1
  rcases hop with ⟨rfl, rfl⟩ | ⟨rfl, rfl⟩
  · refine .pure hR (u := .bool (!r)) ?_ (by cases r <;> exact .bool _)
    simp [execOp, ho, hgd, b2]
  · refine .pure hR (u := .bool r) ?_ (by cases r <;> exact .bool _)
    simp [execOp, ho, hgd, b1]

/-! ### Numbers, strings -/
theorem sim_un {op : UnOp} {t : TypeId} {x : X} {y : Operand} (ho : o.op = .unOp op t y) (hx : opdOk gl y x = true) : OpR P gl o (do_un op x) := by
  intro μ S w fr a N v S' hg hR hf h
  unfold do_un at h
  split at h
  · rename_i b hv
    obtain ⟨rfl, rfl⟩ : AV.bool (!b) = v ∧ S = S' := by simpa using h
    have e := evX_bool hx hg hf hv
    exact .pure hR (u := .bool (!b)) (by simp [execOp, ho, e, Op.unary]) (.bool _)
  · rename_i k n hv
    obtain ⟨rfl, rfl⟩ : AV.int k (k.wrap (0 - n)) = v ∧ S = S' := by simpa using h
    have e := evX_int hx hg hf hv
    exact .pure hR (u := .int k (k.wrap (0 - n))) (by simp [execOp, ho, e, Op.unary, Op.intArith]) (.int _ _)
  · rename_i k n hv
    split at h
    · rename_i v' hb
      obtain ⟨rfl, rfl⟩ : v' = v ∧ S = S' := by simpa using h
      have e := evX_int hx hg hf hv
      obtain ⟨u, hu, hr⟩ := intBin_bin (P := P) hb 0 w
      refine .pure hR (u := u) ?_ (hr μ)
      have hu2 : (Op.intBits .xor k (if k.signed then -1 else k.max) n).run P w = .ok u w := by
        unfold binOp at hu; simpa only [ne_eq, not_true_eq_false, ite_false] using hu
      simp only [execOp, ho, e, Op.unary, Sem.run_bind, hu2, Result.andThen_ok, Sem.run_pure]
    · cases h
  · cases h

def isInt (P : Program) (t : TypeId) (k : IntKind) : Bool := match P.underlying t with
  | some (.int j) => j == k
  | _ => false
theorem isInt_spec {t : TypeId} {k : IntKind} (h : isInt P t k = true) : P.underlying t = some (.int k) := by
  unfold isInt at h; split at h
  · rw [beq_iff_eq] at h; subst h; assumption
  · cases h

theorem sim_convInt {k : IntKind} {s t : TypeId} {x : X} {y : Operand} (ho : o.op = .convert s t y) (hx : opdOk gl y x = true) (hs : (P.underlying s).isSome = true) (ht : isInt P t k = true) : OpR P gl o (do_convInt k x) := by
  intro μ S w fr a N v S' hg hR hf h
  unfold do_convInt at h
  split at h
  · rename_i j n hv
    obtain ⟨rfl, rfl⟩ : AV.int k (wr k n) = v ∧ S = S' := by simpa using h
    have e := evX_int hx hg hf hv
    obtain ⟨d, hd⟩ := Option.isSome_iff_exists.1 hs
    rw [wr_eq]
    exact .pure hR (u := .int k (k.wrap n)) (by simp [execOp, ho, e, convert, r_underlying hd, r_underlying (isInt_spec ht), Conv.intToInt]) (.int _ _)
  · rename_i j c ts hv
    split at h
    · rename_i r hr
      obtain ⟨rfl, rfl⟩ : r = v ∧ S = S' := by simpa using h
      obtain ⟨o1, e⟩ := symOf_vr (v := .sym j c ts) rfl (opd_vr hx hg hf hv)
      obtain ⟨d, hd⟩ := Option.isSome_iff_exists.1 hs
      obtain ⟨f1, f2⟩ := fitS_ev o1 hr
      rw [wr_eq] at f2
      exact .pure hR (u := .int k (c + evT ts)) (by simp [execOp, ho, e, convert, r_underlying hd, r_underlying (isInt_spec ht), Conv.intToInt, f2]) (by rw [f1]; exact mkS_vr o1)
    · cases h
  · cases h

theorem strBin_run {op : BinOp} {s s' : ByteArray} {l l' : List Nat} {v : AV} (h : s.data.toList.map UInt8.toNat = l) (h' : s'.data.toList.map UInt8.toNat = l') (hv : strBin op l l' = some v) (w : World) :
    ∃ u, (Op.stringOp op s s').run P w = .ok u w ∧ ∀ μ, VR μ v u := by
  have e1 := str_beq h h'
  have e2 : Op.bytesLess s.toList s'.toList = ltBytes l l' := by rw [ByteArray.toList_eq, ByteArray.toList_eq, str_less, h, h']
  unfold strBin at hv
  split at hv
  · split at hv
    · rename_i hl
      obtain rfl := Option.some.inj hv
      have : ¬ (((s.size + s'.size : Nat) : Int) > IntKind.i64.max) := by
        rw [← str_len h, ← str_len h']; simp [IntKind.max, IntKind.signed, IntKind.bits]; omega
      refine ⟨.string (s ++ s'), by simp only [Op.stringOp]; rw [if_neg this]; rfl, fun μ => .str ?_⟩
      rw [← h, ← h']; simp
    · cases hv
  all_goals (try (cases hv; done))
  all_goals (obtain rfl := Option.some.inj hv)
  all_goals (refine ⟨_, (by simp only [Op.stringOp, Sem.run_pure]; rfl), fun μ => ?_⟩)
  all_goals (first | rw [e2, e1] | rw [e1] | rw [e2])
  all_goals exact .bool _

theorem guard_str (op : BinOp) (t : TypeId) (y z : Operand) (a b : ByteArray) (w : World) : (eqGuard op t y z (.string a) (.string b)).run P w = .ok () w := by unfold eqGuard; cases op <;> simp

theorem sim_sbin {op : BinOp} {t ty : TypeId} {x x' : X} {y z : Operand} (ho : o.op = .binOp op t y z ty) (hx : opdOk gl y x = true) (hx' : opdOk gl z x' = true) : OpR P gl o (do_sbin op x x') := by
  intro μ S w fr a N v S' hg hR hf h
  unfold do_sbin at h
  split at h
  rotate_left
  · cases h
  rename_i l l' hv hw
  split at h
  rotate_left
  · cases h
  rename_i v' hb
  obtain ⟨rfl, rfl⟩ : v' = v ∧ S = S' := by simpa using h
  obtain ⟨s, e1, h1⟩ := evX_str hx hg hf hv
  obtain ⟨s', e2, h2⟩ := evX_str hx' hg hf hw
  obtain ⟨u, hu, hr⟩ := strBin_run (P := P) h1 h2 hb w
  refine .pure hR (u := u) ?_ (hr μ)
  have : (binOp op t (.string s) (.string s')).run P w = .ok u w := by unfold binOp; cases op <;> exact hu
  simp only [execOp, ho, e1, e2, Sem.run_bind, guard_str, Result.andThen_ok, this, Sem.run_pure]

def fieldVOk (P : Program) (s : TypeId) (i off : Nat) (sz : Option Nat) : Bool := match P.underlying s with
  | some (.struct fs) => match fs[i]? with
    | some f => f.offset == off && szOk P f.type sz
    | none => false
  | _ => false

theorem part_val {μ : Mu} {t : TypeId} {sz : Option Nat} (ht : szOk P t sz = true) {c : List AV} {C : Array Value} (hc : VRs μ c C.toList) (hs : c.all scal = true) {off : Nat} {v : AV} (hv : Ab.part c off sz = some v) (w : World) :
    ∃ u, (Go.part t C off).run P w = .ok u w ∧ VR μ v u := by
  unfold Go.part
  rcases szOk_spec ht with ⟨n, rfl, h1, h2⟩ | ⟨rfl, h1⟩
  · simp only [Ab.part] at hv
    split at hv
    · rename_i l hl
      obtain rfl := Option.some.inj hv
      obtain ⟨q1, rfl⟩ := slice?_get hl
      refine ⟨.agg (C.extract off (off + n)), by simp [h1, h2], .agg ?_ ?_⟩
      · have := (hc.drop off).take n
        simpa [Array.toList_extract, Nat.add_sub_cancel_left] using this
      · rw [List.all_eq_true] at hs ⊢
        exact fun x hx => hs x (List.mem_of_mem_drop (List.mem_of_mem_take hx))
    · cases hv
  · simp only [Ab.part] at hv
    obtain ⟨u, hu, hr⟩ := hc.get _ _ hv
    rw [Array.getElem?_toList] at hu
    exact ⟨u, by simp [h1, hu], hr⟩

theorem sim_fieldV {s : TypeId} {i off : Nat} {sz : Option Nat} {x : X} {y : Operand} (ho : o.op = .field s y i) (hx : opdOk gl y x = true) (ht : fieldVOk P s i off sz = true) : OpR P gl o (do_fieldV off sz x) := by
  intro μ S w fr a N v S' hg hR hf h
  unfold do_fieldV at h
  split at h
  rotate_left
  · cases h
  rename_i c hv
  split at h
  rotate_left
  · cases h
  rename_i v' hp
  obtain ⟨rfl, rfl⟩ : v' = v ∧ S = S' := by simpa using h
  obtain ⟨C, e, vc, sc⟩ := evX_agg hx hg hf hv
  unfold fieldVOk at ht
  split at ht <;> try (cases ht; done)
  rename_i fs hu
  split at ht <;> try (cases ht; done)
  rename_i f hfi
  simp only [Bool.and_eq_true, beq_iff_eq] at ht
  obtain ⟨rfl, ht⟩ := ht
  obtain ⟨u, hu2, hr⟩ := part_val (P := P) ht vc sc hp w
  exact .pure hR (u := u) (by simp [execOp, ho, e, Instr.field, r_underlying hu, hfi, asAgg, hu2]) hr

def isStr (P : Program) (t : TypeId) : Bool := match P.underlying t with
  | some .string => true
  | _ => false
theorem isStr_spec {t : TypeId} (h : isStr P t = true) : P.underlying t = some .string := by
  unfold isStr at h; split at h <;> first | assumption | cases h

theorem sim_idxStr {t : TypeId} {x i : X} {y z : Operand} (ho : o.op = .index t y z) (hx : opdOk gl y x = true) (hi : opdOk gl z i = true) (ht : isStr P t = true) : OpR P gl o (do_idxStr x i) := by
  intro μ S w fr a N v S' hg hR hf h
  unfold do_idxStr at h
  split at h
  rotate_left
  · cases h
  rename_i l k n hv hw
  split at h
  rotate_left
  · cases h
  rename_i hn
  split at h
  rotate_left
  · cases h
  rename_i b hb
  obtain ⟨rfl, rfl⟩ : AV.int .u8 b = v ∧ S = S' := by simpa using h
  obtain ⟨s, e1, h1⟩ := evX_str hx hg hf hv
  have e2 := evX_int hi hg hf hw
  subst h1
  simp only [List.getElem?_map, Option.map_eq_some_iff] at hb
  obtain ⟨c, hc, rfl⟩ := hb
  rw [Array.getElem?_toList] at hc
  refine .pure hR (u := .int .u8 c.toNat) ?_ (.int _ _)
  have hc2 : s[n.toNat]? = some c := by
    have hlt : n.toNat < s.size := by
      rcases Nat.lt_or_ge n.toNat s.data.size with h | h
      · exact h
      · rw [Array.getElem?_eq_none h] at hc; cases hc
    rw [getElem?_pos s n.toNat hlt]
    rw [Array.getElem?_eq_getElem hlt] at hc
    exact hc
  simp [execOp, ho, e1, e2, Instr.index, asIntOf, r_underlying (isStr_spec ht), hn, hc2]

theorem sim_lenStr {x : X} {c : Call} {t : TypeId} {y : Operand} (ho : o.op = .call c) (hc : c.callee = .builtin .len) (ha : c.args = #[y]) (ht : c.argTypes[0]? = some t) (hs : isStr P t = true) (hx : opdOk gl y x = true) : OpR P gl o (do_lenStr x) := by
  intro μ S w fr a N v S' hg hR hf h
  unfold do_lenStr at h
  split at h
  · rename_i l hv
    obtain ⟨rfl, rfl⟩ : AV.int .i64 l.length = v ∧ S = S' := by simpa using h
    obtain ⟨s, e1, h1⟩ := evX_str hx hg hf hv
    have hl := str_len h1
    refine .pure hR (u := .int .i64 s.size) ?_ (by rw [hl]; exact .int _ _)
    simp only [execOp, ho, resolve, hc, ha, List.map_toArray, List.map_cons, List.map_nil, Sem.run_bind, Sem.run_pure, Result.andThen_ok, invoke, builtin, Builtin.len_, ht, List.getElem?_toArray, List.getElem?_cons_zero, e1, r_underlying (isStr_spec hs), goInt]
  · cases h

/-! ### Slice expressions -/
theorem bound_some {most most' d r : Nat} {v : AV} {u : Value} {μ : Mu} (h : bound most (some v) d = some r) (hm : most ≤ most') (hv : VR μ v u) (code : BoundsCode) (w : World) :
    (Instr.sliceBound u most' code).run P w = .ok r w ∧ r ≤ most := by
  cases hv <;> simp only [bound, reduceCtorEq] at h
  split at h
  · rename_i hn
    obtain rfl := Option.some.inj h
    refine ⟨?_, by omega⟩
    simp only [Instr.sliceBound, asIntOf, Sem.run_bind, Sem.run_pure, Result.andThen_ok, Sem.run_ite]
    rw [if_pos ⟨hn.1, by omega⟩]
  · cases h
theorem bound_d (most d d' : Nat) (v : AV) : bound most (some v) d = bound most (some v) d' := by cases v <;> rfl
theorem bound_none {most d r : Nat} (h : bound most none d = some r) : r = d := (Option.some.inj h).symm

def optOk (gl : List Nat) : Option Operand → Option X → Bool
  | none, none => true
  | some y, some x => opdOk gl y x
  | _, _ => false

theorem opt_vr {y : Option Operand} {x : Option X} (h : optOk gl y x = true) {μ : Mu} (hg : GR gl μ) {N : Nat} {fr : Fr} {a : Act} (hf : FrR μ N fr a.tmps) {v : Option AV} (hv : evO fr x = some v) :
    (y = none ∧ v = none) ∨ ∃ y' v', y = some y' ∧ v = some v' ∧ VR μ v' (a.eval y') := by
  unfold optOk at h
  split at h
  · left; exact ⟨rfl, by simpa [evO] using hv.symm⟩
  · right
    simp only [evO] at hv
    split at hv
    · rename_i v' hv'
      exact ⟨_, v', rfl, (Option.some.inj hv).symm, opd_vr h hg hf hv'⟩
    · cases hv
  · cases h

/-- The three bounds. -/
theorem bounds_run {μ : Mu} {a : Act} {lo hi mx : Option Operand} {l h m : Option AV} (hl : (lo = none ∧ l = none) ∨ ∃ y v, lo = some y ∧ l = some v ∧ VR μ v (a.eval y)) (hh : (hi = none ∧ h = none) ∨ ∃ y v, hi = some y ∧ h = some v ∧ VR μ v (a.eval y))
    (hm : (mx = none ∧ m = none) ∨ ∃ y v, mx = some y ∧ m = some v ∧ VR μ v (a.eval y)) (hmh : mx.isSome = true → hi.isSome = true) {len cap most1 most2 l' h' m' : Nat} (b1 : bound most1 m cap = some m') (q1 : most1 ≤ cap) (b2 : bound most2 h len = some h') (q2 : most2 ≤ m') (b3 : bound h' l 0 = some l') (isS : Bool) (w : World) :
    (Instr.sliceBounds isS len cap (lo.map a.eval) (hi.map a.eval) (mx.map a.eval)).run P w = .ok (l', h', m') w := by
  unfold Instr.sliceBounds
  rcases hm with ⟨rfl, rfl⟩ | ⟨ym, vm, rfl, rfl, hvm⟩
  · obtain rfl := bound_none b1
    rcases hh with ⟨rfl, rfl⟩ | ⟨yh, vh, rfl, rfl, hvh⟩
    · obtain rfl := bound_none b2
      rcases hl with ⟨rfl, rfl⟩ | ⟨yl, vl, rfl, rfl, hvl⟩
      · obtain rfl := bound_none b3; simp
      · simp [(bound_some (P := P) b3 (Nat.le_refl _) hvl _ w).1]
    · rcases hl with ⟨rfl, rfl⟩ | ⟨yl, vl, rfl, rfl, hvl⟩
      · obtain rfl := bound_none b3; simp [(bound_some (P := P) b2 q2 hvh _ w).1]
      · simp [(bound_some (P := P) b2 q2 hvh _ w).1, (bound_some (P := P) b3 (Nat.le_refl _) hvl _ w).1]
  · rcases hh with ⟨rfl, rfl⟩ | ⟨yh, vh, rfl, rfl, hvh⟩
    · simp at hmh
    · rcases hl with ⟨rfl, rfl⟩ | ⟨yl, vl, rfl, rfl, hvl⟩
      · obtain rfl := bound_none b3; simp [(bound_some (P := P) b1 q1 hvm _ w).1, (bound_some (P := P) b2 q2 hvh _ w).1]
      · simp [(bound_some (P := P) b1 q1 hvm _ w).1, (bound_some (P := P) b2 q2 hvh _ w).1, (bound_some (P := P) b3 (Nat.le_refl _) hvl _ w).1]
theorem bound_le {most d r : Nat} {v : Option AV} (h : bound most v d = some r) (hd : d ≤ most) : r ≤ most := by
  unfold bound at h
  split at h
  · obtain rfl := Option.some.inj h; exact hd
  · split at h
    · obtain rfl := Option.some.inj h; omega
    · cases h
  · cases h

def mxOk (hi mx : Option Operand) : Bool := !mx.isSome || hi.isSome

theorem sim_slc {es : Nat} {t : TypeId} {x : X} {lo hi mx : Option X} {y : Operand} {ylo yhi ymx : Option Operand} (ho : o.op = .slice t y ylo yhi ymx) (hx : opdOk gl y x = true) (h1 : optOk gl ylo lo = true) (h2 : optOk gl yhi hi = true) (h3 : optOk gl ymx mx = true) (h4 : mxOk yhi ymx = true) (ht : sliceOf P t es = true) : OpR P gl o (do_slc es x lo hi mx) := by
  intro μ S w fr a N v S' hg hR hf h
  have h4 : ymx.isSome = true → yhi.isSome = true := fun e => by simpa [mxOk, e] using h4
  obtain ⟨e, hu, hs⟩ := sliceOf_spec ht
  have run : ∀ {base : Option Addr} {len cap l' h' m' : Nat}, a.eval y = .slice base len cap → (∀ w, (Instr.sliceBounds true len cap (ylo.map a.eval) (yhi.map a.eval) (ymx.map a.eval)).run P w = .ok (l', h', m') w) →
      (execOp a.eval o).run P w = .ok (.value (.slice (if m' = l' then base else base.map (·.add (l' * es))) (h' - l') (m' - l'))) w := fun {base len cap l' h' m'} ey hb => by
    simp only [execOp, ho, Instr.sliceAt, r_underlying hu, Sem.run_bind, Result.andThen_ok, Instr.slice, ey, hb, hs, Sem.run_pure]
  unfold do_slc at h
  split at h
  · rename_i l hh m hv hlo hhi hmx
    have o1 := opt_vr h1 hg hf hlo
    have o2 := opt_vr h2 hg hf hhi
    have o3 := opt_vr h3 hg hf hmx
    split at h <;> (try (cases h; done))
    rename_i m' b1
    split at h <;> (try (cases h; done))
    rename_i h' b2
    split at h <;> (try (cases h; done))
    rename_i l' b3
    obtain ⟨rfl, rfl⟩ : AV.nils = v ∧ S = S' := by simpa using h
    have ey := evX_nils hx hg hf hv
    have hm0 : m' = 0 := by have := bound_le b1 (Nat.le_refl _); omega
    have hh0 : h' = 0 := by have := bound_le b2 (Nat.le_refl _); omega
    have hl0 : l' = 0 := by have := bound_le b3 (Nat.le_refl _); omega
    subst hm0 hh0 hl0
    have b3' : bound 0 l 0 = some 0 := b3
    refine .pure hR (u := .slice none 0 0) ?_ .nils
    rw [run ey (fun w => bounds_run (P := P) o1 o2 o3 h4 b1 (Nat.le_refl _) b2 (Nat.le_refl _) b3' true w)]
    simp
  · rename_i b off len cap l hh m hv hlo hhi hmx
    have o1 := opt_vr h1 hg hf hlo
    have o2 := opt_vr h2 hg hf hhi
    have o3 := opt_vr h3 hg hf hmx
    obtain ⟨L, co, cc, hL, ey, hle, hco, hK, hU⟩ := evX_slc hx hg hf hv
    split at h
    · -- the capacity is known
      rename_i c
      obtain ⟨rfl, rfl⟩ := hK c rfl
      split at h <;> (try (cases h; done))
      rename_i m' b1
      split at h <;> (try (cases h; done))
      rename_i h' b2
      split at h <;> (try (cases h; done))
      rename_i l' b3
      obtain ⟨rfl, rfl⟩ : AV.slc b (if m' = l' then off else off + l' * es) (h' - l') (some (m' - l')) = v ∧ S = S' := by simpa using h
      have hm1 := bound_le b1 (Nat.le_refl _)
      have hl1 := bound_le b3 (Nat.zero_le _)
      -- the upper bound lies below the capacity
      have hh1 : h' ≤ m' := by
        rcases o2 with ⟨e1, rfl⟩ | ⟨yh, vh, e1, rfl, hvh⟩
        · obtain rfl := bound_none b2
          rcases o3 with ⟨e2, rfl⟩ | ⟨ym, vm, e2, rfl, hvm⟩
          · obtain rfl := bound_none b1; exact hle
          · rw [e1, e2] at h4; simp at h4
        · exact (bound_some (P := P) b2 (Nat.le_refl _) hvh .sliceB w).2
      refine .pure hR (u := _) (run ey (fun w => bounds_run (P := P) o1 o2 o3 h4 b1 (Nat.le_refl _) b2 (Nat.le_refl _) b3 true w)) ?_
      by_cases e0 : m' = l'
      · rw [if_pos e0, if_pos e0]; exact .slcK hL (by omega)
      · rw [if_neg e0, if_neg e0]
        simp only [Option.map_some, add_at, Nat.add_assoc]
        exact .slcK hL (by omega)
    · have hs3 := hU rfl
      split at h <;> (try (cases h; done))
      rename_i es' ro known hb
      split at h <;> (try (cases h; done))
      rename_i hes
      subst hes
      obtain ⟨_, _, _, _, _, _, _, _, _, _, q8⟩ := hR.at hb hL
      have hes : L.es = es' := q8 _ rfl
      split at h
      · -- it is not known, and not asked for
        split at h <;> (try (cases h; done))
        rename_i h' b2
        split at h <;> (try (cases h; done))
        rename_i l' b3
        obtain ⟨rfl, rfl⟩ : AV.slc b (off + l' * es') (h' - l') none = v ∧ S = S' := by simpa using h
        have hh1 := bound_le b2 (Nat.le_refl _)
        have hl1 := bound_le b3 (Nat.zero_le _)
        refine .pure hR (u := _) (run ey (fun w => bounds_run (P := P) (m' := cc) (most1 := cc) o1 o2 o3 h4 rfl (Nat.le_refl _) b2 hle b3 true w)) ?_
        rw [hes] at hs3
        by_cases e0 : cc = l'
        · rw [if_pos e0]
          refine .slcU hL (by omega) (fun hne => by omega) ?_
          rw [← e0, Nat.sub_self, Nat.zero_mul]
          have := Nat.zero_le (cc * es'); omega
        · rw [if_neg e0]
          simp only [Option.map_some, add_at]
          refine .slcU hL (by omega) (fun hne => by rw [hco (by omega), Nat.add_assoc]) ?_
          rw [hes]
          have : l' * es' + (cc - l') * es' = cc * es' := by rw [← Nat.add_mul]; congr 1; omega
          omega
      · rename_i _ mv
        split at h <;> (try (cases h; done))
        rename_i m' b1
        split at h <;> (try (cases h; done))
        rename_i h' b2
        split at h <;> (try (cases h; done))
        rename_i l' b3
        obtain ⟨rfl, rfl⟩ : AV.slc b (if m' = l' then off else off + l' * es') (h' - l') (if len = 0 then none else some (m' - l')) = v ∧ S = S' := by simpa using h
        have hm1 := bound_le b1 (Nat.le_refl _)
        have hh1 := bound_le b2 (Nat.le_refl _)
        have hl1 := bound_le b3 (Nat.zero_le _)
        rw [hes] at hs3
        -- an upper bound stands there
        have hhi2 : ∃ hv, hh = some hv := by
          rcases o3 with ⟨_, e2⟩ | ⟨ym, vm, e2, _⟩
          · cases e2
          · rcases o2 with ⟨e1, _⟩ | ⟨yh, vh, _, e1, _⟩
            · rw [e1, e2] at h4; simp at h4
            · exact ⟨_, e1⟩
        obtain ⟨hv', rfl⟩ := hhi2
        have b1' : bound len (some mv) cc = some m' := by rw [bound_d len cc len]; exact b1
        have b2' : bound m' (some hv') len = some h' := by rw [bound_d m' len m']; exact b2
        refine .pure hR (u := _) (run ey (fun w => bounds_run (P := P) (m' := m') (most1 := len) (most2 := m') o1 o2 o3 h4 b1' hle b2' (Nat.le_refl _) b3 true w)) ?_
        by_cases h0 : len = 0
        · rw [if_pos h0]
          have z1 : m' = 0 := by omega
          have z2 : h' = 0 := by omega
          have z3 : l' = 0 := by omega
          subst z1 z2 z3
          simp only [if_true, Nat.sub_self]
          refine .slcU hL (Nat.le_refl _) (fun hne => absurd rfl hne) ?_
          rw [Nat.zero_mul]
          have := Nat.zero_le (cc * es'); omega
        · rw [if_neg h0]
          obtain rfl := hco h0
          by_cases e0 : m' = l'
          · rw [if_pos e0, if_pos e0]; exact .slcK hL (by omega)
          · rw [if_neg e0, if_neg e0]
            simp only [Option.map_some, add_at, Nat.add_assoc]
            exact .slcK hL (by omega)
  · cases h
end Go.Ab
