/-
  THE OPERATIONS, LAST PART: iterators, lengths, copy, clear, min and max, bytes; and the checks of all groups.
-/
import Derived.Test.YtnhfopfmgodllaaAbOpsI
namespace Go.Ab
open Go
set_option linter.unusedSectionVars false
variable [Inhabited Unknowns]
variable {P : Program} {gl : List Nat} {o : Oper}

theorem sim_range {t : TypeId} {x : X} {y : Operand} (ho : o.op = .range t y) (hx : opdOk gl y x = true) (ht : isStr P t = true) : OpR P gl o (do_range x) := by
  intro μ S w fr a N v S' hg hR hf h
  unfold do_range at h
  split at h <;> (try (cases h; done))
  rename_i l hv
  obtain ⟨rfl, rfl⟩ : AV.ptr S.next 0 = v ∧ new S (.siter l 0) = S' := by simpa using h
  obtain ⟨s, e1, h1⟩ := evX_str hx hg hf hv
  obtain ⟨k1, k2⟩ := hR.allocObj (o := .siter l 0) (O := .stringIter s 0) (.siter h1 rfl)
  refine ⟨_, _, .pointer (some ⟨w.heap.size, 0, none⟩), .inl ?_, ?_, k1, k2⟩
  · simp [execOp, ho, e1, Instr.range, r_underlying (isStr_spec ht)]
  · simpa using VR.ptr (L := ⟨w.heap.size, 0, 0, 0⟩) (o := 0) (Mu.add_same μ S.next _)

theorem strB_eq {s : ByteArray} {l : List Nat} (h : s.data.toList.map UInt8.toNat = l) : strB l = s := by
  subst h
  apply ByteArray.ext
  simp only [strB, List.map_map]
  rw [show (UInt8.ofNat ∘ UInt8.toNat) = id from funext fun x => by simp]
  simp

theorem decode_run {s : ByteArray} {l : List Nat} (h : s.data.toList.map UInt8.toNat = l) (i : Nat) : (i < s.size → decodeAt l i = some (Utf8.decode s i)) ∧ (s.size ≤ i → decodeAt l i = none) := by
  have hl := str_len h
  constructor
  · intro hi
    unfold decodeAt
    have hli : i < l.length := by omega
    rw [List.getElem?_eq_getElem hli]
    simp only
    split
    · rename_i hb
      -- one byte
      have hb2 : (s.get! i).toNat = l[i] := by
        subst h
        simp only [List.getElem_map, Array.getElem_toList]
        show (s.data[i]!).toNat = _
        rw [getElem!_pos s.data i hi]
      unfold Utf8.decode
      simp only [Nat.add_zero, hb2]
      rw [if_pos hb]
    · rw [strB_eq h]
  · intro hi
    unfold decodeAt
    rw [List.getElem?_eq_none (by omega)]

theorem Rel.siter {μ : Mu} {S : St} {w : World} (h : Rel μ S w) {b : Nat} {L : Loc} {l : List Nat} {p : Nat} (hb : S.heap.get b = some (.siter l p)) (hL : μ b = some L) : ∃ s, w.heap[L.blk]? = some (.stringIter s p) ∧ s.data.toList.map UInt8.toNat = l ∧ L.off = 0 := by
  obtain ⟨O, hO, hr⟩ := h.obj b _ L hb hL
  cases hr with
  | siter h h0 => exact ⟨_, hO, h, h0⟩

theorem sim_next {x : X} {y : Operand} (ho : o.op = .next y true) (hx : opdOk gl y x = true) : OpR P gl o (do_next x) := by
  intro μ S w fr a N v S' hg hR hf h
  unfold do_next at h
  split at h <;> (try (cases h; done))
  rename_i b hv
  split at h <;> (try (cases h; done))
  rename_i l p hb
  obtain ⟨L, hL, e1⟩ := evX_ptr hx hg hf hv
  obtain ⟨s, hE, hs, h0⟩ := hR.siter hb hL
  have hget := getObj_run (P := P) hE (by intros; simp)
  rw [h0, Nat.add_zero] at e1
  have hd := decode_run hs p
  split at h
  · rename_i c n hdec
    obtain ⟨rfl, rfl⟩ : AV.tup [.bool true, .int .i64 p, .int .i32 c] = v ∧ (⟨S.next, S.heap.put b (some (.siter l (p + n)))⟩ : St) = S' := by simpa using h
    have hp : p < s.size := by
      rcases Nat.lt_or_ge p s.size with h' | h'
      · exact h'
      · rw [hd.2 h'] at hdec; cases hdec
    have hdec2 : Utf8.decode s p = (c, n) := by have := hd.1 hp; rw [hdec] at this; exact (Option.some.inj this).symm
    obtain ⟨s1, s2⟩ := heap_set (k := 0) (O' := .stringIter s (p + n)) hE
    obtain ⟨r1, r2⟩ := hR.setObj (w' := { w with heap := w.heap.setIfInBounds L.blk (.stringIter s (p + n)) }) (o' := .siter l (p + n)) hb rfl rfl hL s1 (fun k hk => (heap_set (k := k) hE).2 hk) (by simp) rfl rfl rfl (.siter hs h0)
    refine ⟨μ, _, .tuple #[.bool true, .int .i64 p, .int .i32 c], .inl ?_, .tup (.cons (.bool _) (.cons (.int _ _) (.cons (.int _ _) .nil))), r1, r2⟩
    have hset := setObj_run (P := P) (O' := .stringIter s (p + n)) hE (by intros; simp)
    simp [execOp, ho, e1, Instr.next, hget, hp, hdec2, hset, goInt]
  · rename_i hdec
    obtain ⟨rfl, rfl⟩ : AV.tup [.bool false] = v ∧ S = S' := by simpa using h
    have hp : ¬ p < s.size := fun h' => by rw [hd.1 h'] at hdec; cases hdec
    exact .pure hR (u := .tuple #[.bool false]) (by simp [execOp, ho, e1, Instr.next, hget, hp]) (.tup (.cons (.bool _) .nil))

def isMap (P : Program) (t : TypeId) : Bool := match P.underlying t with
  | some (.map ..) => true
  | _ => false
theorem isMap_spec {t : TypeId} (h : isMap P t = true) : ∃ k e, P.underlying t = some (.map k e) := by
  unfold isMap at h; split at h <;> first | exact ⟨_, _, ‹_›⟩ | cases h

theorem EsR.length {μ : Mu} : ∀ {es : List (AV × AV)} {fs : List MapEntry}, EsR μ es fs → fs.length = es.length
  | _, _, .nil => rfl
  | _, _, .cons _ _ t => by simp [t.length]

theorem sim_lenM {x : X} {c : Call} {t : TypeId} {y : Operand} (ho : o.op = .call c) (hc : c.callee = .builtin .len) (ha : c.args = #[y]) (ht : c.argTypes[0]? = some t) (hs : isMap P t = true) (hx : opdOk gl y x = true) : OpR P gl o (do_lenM x) := by
  intro μ S w fr a N v S' hg hR hf h
  obtain ⟨k, e, hu⟩ := isMap_spec hs
  unfold do_lenM at h
  split at h
  · rename_i hv
    obtain ⟨rfl, rfl⟩ : AV.int .i64 0 = v ∧ S = S' := by simpa using h
    have he := evX_nilm hx hg hf hv
    exact .pure hR (u := .int .i64 0) (by simp [execOp, ho, resolve, hc, ha, invoke, builtin, Builtin.len_, ht, he, r_underlying hu, goInt]) (.int _ _)
  · rename_i b hv
    split at h <;> (try (cases h; done))
    rename_i es hb
    obtain ⟨rfl, rfl⟩ : AV.int .i64 es.length = v ∧ S = S' := by simpa using h
    obtain ⟨L, hL, em⟩ := evX_map hx hg hf hv
    obtain ⟨E, clock, hE, hes, h0⟩ := hR.map hb hL
    have hget := getObj_run (P := P) hE (by intros; simp)
    have hl := hes.length
    refine .pure hR (u := .int .i64 E.size) ?_ (by simp at hl; rw [← hl]; exact .int _ _)
    simp [execOp, ho, resolve, hc, ha, invoke, builtin, Builtin.len_, ht, em, r_underlying hu, goInt, hget]
  · cases h

def lenCOk (P : Program) (t : TypeId) (n : Nat) : Bool := match P.underlying t with
  | some (.array m _) => m == n
  | _ => false
theorem sim_lenC {n : Nat} {c : Call} {t : TypeId} {y : Operand} (ho : o.op = .call c) (hc : c.callee = .builtin .len) (ha : c.args = #[y]) (ht : c.argTypes[0]? = some t) (hs : lenCOk P t n = true) : OpR P gl o (do_lenC n) := by
  intro μ S w fr a N v S' hg hR hf h
  unfold do_lenC at h
  obtain ⟨rfl, rfl⟩ : AV.int .i64 n = v ∧ S = S' := by simpa using h
  unfold lenCOk at hs
  split at hs <;> (try (cases hs; done))
  rename_i m e hu
  rw [beq_iff_eq] at hs; subst hs
  exact .pure hR (u := .int .i64 m) (by simp [execOp, ho, resolve, hc, ha, invoke, builtin, Builtin.len_, ht, r_underlying hu, goInt]) (.int _ _)

theorem fold_min {mx : Bool} {g : Value → Value → Sem Value} (hg : ∀ k x y, g (.int k x) (.int k y) = pure (.int k (minF mx x y))) {μ : Mu} (w : World) : ∀ {l : List AV} {us : List Value} {v r : AV} {u : Value}, VR μ v u → VRs μ l us → minI mx v l = some r → ∃ q, (us.foldlM g u).run P w = .ok q w ∧ VR μ r q
  | [], _, v, r, u, hv, .nil, h => by
    obtain rfl : v = r := by simpa [minI] using h
    exact ⟨u, rfl, hv⟩
  | b :: l, ub :: us, v, r, u, hv, .cons hb t, h => by
    unfold minI at h
    split at h
    · rename_i e; cases e
    · rename_i k x j y l' e
      cases e
      split at h
      · rename_i hkj; subst hkj
        cases hv; cases hb
        obtain ⟨q, h1, h2⟩ := fold_min hg w (.int k (minF mx x y)) t h
        exact ⟨q, by simp only [List.foldlM_cons, hg, Sem.run_bind, Sem.run_pure, Result.andThen_ok, h1], h2⟩
      · cases h
    · rename_i hne e
      cases e
      split at h <;> (try (cases h; done))
      rename_i k c ts j d ws s1 s2
      split at h
      · rename_i hkj; subst hkj
        obtain ⟨o1, rfl⟩ := symOf_vr s1 hv
        obtain ⟨o2, rfl⟩ := symOf_vr s2 hb
        have hF : ∀ q, minS mx c ts d ws = some q → minF mx (c + evT ts) (d + evT ws) = if q then d + evT ws else c + evT ts := fun q hq => by
          unfold minS at hq
          unfold minF
          cases mx
          · simp only [Bool.false_eq_true, if_false] at hq ⊢
            obtain ⟨z1, z2⟩ := sub_ev o2 o1
            have := negS_ev z2 hq
            subst this
            by_cases hh : d + evT ws < c + evT ts
            · rw [if_pos hh, if_pos (by simp; omega)]
            · rw [if_neg hh, if_neg (by simp; omega)]
          · simp only [if_true] at hq ⊢
            obtain ⟨z1, z2⟩ := sub_ev o1 o2
            have := negS_ev z2 hq
            subst this
            by_cases hh : d + evT ws > c + evT ts
            · rw [if_pos hh, if_pos (by simp; omega)]
            · rw [if_neg hh, if_neg (by simp; omega)]
        split at h
        · rename_i hq
          have := hF _ hq
          simp only [if_true] at this
          obtain ⟨q, h1, h2⟩ := fold_min hg w hb t h
          exact ⟨q, by simp only [List.foldlM_cons, hg, this, Sem.run_bind, Sem.run_pure, Result.andThen_ok, h1], h2⟩
        · rename_i hq
          have := hF _ hq
          simp only [Bool.false_eq_true, if_false] at this
          obtain ⟨q, h1, h2⟩ := fold_min hg w hv t h
          exact ⟨q, by simp only [List.foldlM_cons, hg, this, Sem.run_bind, Sem.run_pure, Result.andThen_ok, h1], h2⟩
        · cases h
      · cases h

theorem sim_mins {xs : List X} {c : Call} (ho : o.op = .call c) (hc : c.callee = .builtin .min) (hx : opdsOk gl c.args.toList xs = true) : OpR P gl o (do_mins xs) := by
  intro μ S w fr a N v S' hg hR hf h
  unfold do_mins at h
  split at h <;> (try (cases h; done))
  rename_i v0 l hvs
  split at h <;> (try (cases h; done))
  rename_i r hr
  obtain ⟨rfl, rfl⟩ : r = v ∧ S = S' := by simpa using h
  have hv := opds_vrs hg hf hx hvs
  cases hm : c.args.toList.map a.eval with
  | nil => rw [hm] at hv; cases hv
  | cons u us =>
    rw [hm] at hv
    cases hv with
    | cons h1 h2 =>
      obtain ⟨q, q1, q2⟩ := fold_min (P := P) (g := Builtin.min2) (fun k x y => rfl) w h1 h2 hr
      refine .pure hR (u := q) ?_ q2
      simp only [execOp, ho, resolve, hc, Sem.run_bind, Sem.run_pure, Result.andThen_ok, invoke, builtin, Builtin.min_, Array.toList_map, hm, q1]

theorem sim_maxs {xs : List X} {c : Call} (ho : o.op = .call c) (hc : c.callee = .builtin .max) (hx : opdsOk gl c.args.toList xs = true) : OpR P gl o (do_maxs xs) := by
  intro μ S w fr a N v S' hg hR hf h
  unfold do_maxs at h
  split at h <;> (try (cases h; done))
  rename_i v0 l hvs
  split at h <;> (try (cases h; done))
  rename_i r hr
  obtain ⟨rfl, rfl⟩ : r = v ∧ S = S' := by simpa using h
  have hv := opds_vrs hg hf hx hvs
  cases hm : c.args.toList.map a.eval with
  | nil => rw [hm] at hv; cases hv
  | cons u us =>
    rw [hm] at hv
    cases hv with
    | cons h1 h2 =>
      obtain ⟨q, q1, q2⟩ := fold_min (P := P) (g := Builtin.max2) (fun k x y => rfl) w h1 h2 hr
      refine .pure hR (u := q) ?_ q2
      simp only [execOp, ho, resolve, hc, Sem.run_bind, Sem.run_pure, Result.andThen_ok, invoke, builtin, Builtin.max_, Array.toList_map, hm, q1]

/-! ### The checks -/
def chkB (P : Program) (gl : List Nat) (o : Oper) : OpB → Bool
  | .pick c x y => match o.op with
    | .pick c' x' y' => opdOk gl c' c && opdOk gl x' x && opdOk gl y' y
    | _ => false
  | .extract x i => match o.op with
    | .extract y j => opdOk gl y x && i == j
    | _ => false
  | .lenS x => match o.op with
    | .call ⟨.builtin .len, ⟨[y]⟩, ⟨t :: _⟩⟩ => opdOk gl y x && isSlice P t
    | _ => false
  | .box x => match o.op with
    | .box _ y => opdOk gl y x
    | _ => false
  | .build cells parts => match o.op with
    | .build t ps => buildOk P gl t ps.toList cells parts
    | _ => false
  | .bslice n cells parts => match o.op with
    | .buildSlice t m ps => n == m && bsliceOk P gl t m ps.toList cells parts
    | _ => false
  | .append es bytes x y => match o.op with
    | .call ⟨.builtin .append, ⟨[x', y']⟩, ts⟩ => opdOk gl x' x && opdOk gl y' y && appOk P ⟨.builtin .append, ⟨[x', y']⟩, ts⟩ es bytes
    | _ => false
  | .eq neg k x y => match o.op with
    | .binOp op t x' y' _ => opdOk gl x' x && opdOk gl y' y && (op == if neg then .neq else .eql) && kindOk P k t x' y'
    | _ => false

theorem simB {p : OpB} (h : chkB P gl o p = true) : OpR P gl o (stepB p) := by
  cases p <;> simp only [chkB] at h <;> split at h <;> (try (cases h; done)) <;> (try simp only [Bool.and_eq_true, beq_iff_eq] at h)
  · exact sim_pick ‹_› h.1.1 h.1.2 h.2
  · obtain ⟨h1, rfl⟩ := h; exact sim_extract ‹_› h1
  · exact sim_lenS ‹_› rfl rfl rfl h.2 h.1
  · exact sim_box ‹_› h
  · exact sim_build ‹_› h
  · obtain ⟨rfl, h⟩ := h; exact sim_bslice ‹_› h
  · exact sim_append ‹_› rfl rfl h.1.1 h.1.2 h.2
  · exact sim_eq ‹_› h.1.1.1 h.1.1.2 (by rw [beq_iff_eq]; exact h.1.2) h.2

def chkC (P : Program) (gl : List Nat) (o : Oper) : OpC → Bool
  | .un op x => match o.op with
    | .unOp op' _ y => op == op' && opdOk gl y x
    | _ => false
  | .convInt k x => match o.op with
    | .convert s t y => opdOk gl y x && (P.underlying s).isSome && isInt P t k
    | _ => false
  | .sbin op x y => match o.op with
    | .binOp op' _ x' y' _ => op == op' && opdOk gl x' x && opdOk gl y' y
    | _ => false
  | .alloc cells => match o.op with
    | .alloc t => zeroOk P t cells
    | _ => false
  | .fieldV off sz x => match o.op with
    | .field s y i => opdOk gl y x && fieldVOk P s i off sz
    | _ => false
  | .idxStr x i => match o.op with
    | .index t y z => opdOk gl y x && opdOk gl z i && isStr P t
    | _ => false
  | .lenStr x => match o.op with
    | .call ⟨.builtin .len, ⟨[y]⟩, ⟨t :: _⟩⟩ => opdOk gl y x && isStr P t
    | _ => false
  | .mkSlice es bytes zero l c => match o.op with
    | .makeSlice t y z => opdOk gl y l && opdOk gl z c && mkOk P t es bytes zero
    | _ => false
  | .slc es x lo hi mx => match o.op with
    | .slice t y l h m => opdOk gl y x && optOk gl l lo && optOk gl h hi && optOk gl m mx && mxOk h m && sliceOf P t es
    | _ => false

theorem simC {p : OpC} (h : chkC P gl o p = true) : OpR P gl o (stepC p) := by
  cases p <;> simp only [chkC] at h <;> split at h <;> (try (cases h; done)) <;> (try simp only [Bool.and_eq_true, beq_iff_eq] at h)
  · obtain ⟨rfl, h⟩ := h; exact sim_un ‹_› h
  · exact sim_convInt ‹_› h.1.1 h.1.2 h.2
  · obtain ⟨⟨rfl, h1⟩, h2⟩ := h; exact sim_sbin ‹_› h1 h2
  · exact sim_alloc ‹_› h
  · exact sim_fieldV ‹_› h.1 h.2
  · exact sim_idxStr ‹_› h.1.1 h.1.2 h.2
  · exact sim_lenStr ‹_› rfl rfl rfl h.2 h.1
  · exact sim_mkSlice ‹_› h.1.1 h.1.2 h.2
  · obtain ⟨⟨⟨⟨⟨h1, h2⟩, h3⟩, h4⟩, h5⟩, h6⟩ := h; exact sim_slc ‹_› h1 h2 h3 h4 h5 h6

def chkD (P : Program) (gl : List Nat) (o : Oper) : OpD → Bool
  | .idxA n es x i => match o.op with
    | .indexAddr t y z => opdOk gl y x && opdOk gl z i && arrayOf P t n es
    | _ => false
  | .idxV n es sz x i => match o.op with
    | .index t y z => opdOk gl y x && opdOk gl z i && arrayVOk P t n es sz
    | _ => false
  | .convStr x => match o.op with
    | .convert s t y => opdOk gl y x && isStr P s && isStr P t
    | _ => false
  | .s2b x => match o.op with
    | .convert s t y => opdOk gl y x && isStr P s && isBytes P t
    | _ => false
  | .b2s x => match o.op with
    | .convert s t y => opdOk gl y x && isBytes P s && isStr P t
    | _ => false
  | .i2s x => match o.op with
    | .convert s t y => opdOk gl y x && (match P.underlying s with | some (.int _) => true | _ => false) && isStr P t
    | _ => false
  | .mkIface t x => match o.op with
    | .makeInterface t' y => t == t' && opdOk gl y x && notIface P t
    | _ => false
  | .mkFn f cap => match o.op with
    | .makeFunc (.func g) ⟨[]⟩ cs => f == g && opdsOk gl cs.toList cap
    | _ => false
  | .mkMap => match o.op with
    | .makeMap _ none => true
    | _ => false

theorem simD {p : OpD} (h : chkD P gl o p = true) : OpR P gl o (stepD p) := by
  cases p <;> simp only [chkD] at h <;> (try (cases h; done)) <;> split at h <;> (try (cases h; done)) <;> (try simp only [Bool.and_eq_true, beq_iff_eq] at h)
  · exact sim_idxA ‹_› h.1.1 h.1.2 h.2
  · exact sim_idxV ‹_› h.1.1 h.1.2 h.2
  · exact sim_convStr ‹_› h.1.1 h.1.2 h.2
  · exact sim_s2b ‹_› h.1.1 h.1.2 h.2
  · exact sim_b2s ‹_› h.1.1 h.1.2 h.2
  · obtain ⟨⟨h1, h2⟩, h3⟩ := h
    split at h2
    · rename_i k hk; exact sim_i2s (k := k) ‹_› h1 (by simp [isInt, hk]) h3
    · cases h2
  · obtain ⟨⟨rfl, h1⟩, h2⟩ := h; exact sim_mkIface ‹_› h1 h2
  · obtain ⟨rfl, h⟩ := h; exact sim_mkFn ‹_› h
  · exact sim_mkMap ‹_›

def chkE (P : Program) (gl : List Nat) (o : Oper) : OpE → Bool
  | .slcA n es x lo hi => match o.op with
    | .slice t y l h none => opdOk gl y x && optOk gl l lo && optOk gl h hi && arrayOf P t n es
    | _ => false
  | .slcStr x lo hi => match o.op with
    | .slice t y l h none => opdOk gl y x && optOk gl l lo && optOk gl h hi && isStr P t
    | _ => false
  | .lookup kd z m k ok => match o.op with
    | .lookup t m' k' ok' => ok == ok' && opdOk gl m' m && opdOk gl k' k && (match mapT P t kd with | some e => zeroVOk P e z | none => false)
    | _ => false
  | .mapUpd kd m k x => match o.op with
    | .mapUpdate t m' k' x' => opdOk gl m' m && opdOk gl k' k && opdOk gl x' x && (mapT P t kd).isSome
    | _ => false
  | .range x => match o.op with
    | .range t y => opdOk gl y x && isStr P t
    | _ => false
  | .next x => match o.op with
    | .next y true => opdOk gl y x
    | _ => false
  | .lenM x => match o.op with
    | .call ⟨.builtin .len, ⟨[y]⟩, ⟨t :: _⟩⟩ => opdOk gl y x && isMap P t
    | _ => false
  | .lenC n => match o.op with
    | .call ⟨.builtin .len, ⟨[_]⟩, ⟨t :: _⟩⟩ => lenCOk P t n
    | _ => false

theorem simE {p : OpE} (h : chkE P gl o p = true) : OpR P gl o (stepE p) := by
  cases p <;> simp only [chkE] at h <;> split at h <;> (try (cases h; done)) <;> (try simp only [Bool.and_eq_true, beq_iff_eq] at h)
  · obtain ⟨⟨⟨h1, h2⟩, h3⟩, h4⟩ := h; exact sim_slcA ‹_› h1 h2 h3 h4
  · obtain ⟨⟨⟨h1, h2⟩, h3⟩, h4⟩ := h; exact sim_slcStr ‹_› h1 h2 h3 h4
  · obtain ⟨⟨⟨rfl, h1⟩, h2⟩, h3⟩ := h
    split at h3
    · exact sim_lookup ‹_› h1 h2 ‹_› h3
    · cases h3
  · obtain ⟨⟨⟨h1, h2⟩, h3⟩, h4⟩ := h
    obtain ⟨e, he⟩ := Option.isSome_iff_exists.1 h4
    exact sim_mapUpd ‹_› h1 h2 h3 he
  · exact sim_range ‹_› h.1 h.2
  · exact sim_next ‹_› h
  · exact sim_lenM ‹_› rfl rfl rfl h.2 h.1
  · exact sim_lenC ‹_› rfl rfl rfl h

def chkF (P : Program) (gl : List Nat) (o : Oper) : OpF → Bool
  | .eqS neg ks x y => match o.op with
    | .binOp op t x' y' _ => opdOk gl x' x && opdOk gl y' y && (op == if neg then .neq else .eql) && isStruct P t && plainN P 20 t == some ks && !P.eqGuardType P.depth t
    | _ => false
  | .clear es zero x => match o.op with
    | .call ⟨.builtin .clear, ⟨[y]⟩, ⟨t :: _⟩⟩ => opdOk gl y x && clearOk P t es zero
    | _ => false
  | .mins xs => match o.op with
    | .call ⟨.builtin .min, ys, _⟩ => opdsOk gl ys.toList xs
    | _ => false
  | .maxs xs => match o.op with
    | .call ⟨.builtin .max, ys, _⟩ => opdsOk gl ys.toList xs
    | _ => false
  | _ => false

theorem simF {p : OpF} (h : chkF P gl o p = true) : OpR P gl o (stepF p) := by
  cases p <;> simp only [chkF] at h <;> (try (cases h; done)) <;> split at h <;> (try (cases h; done)) <;> (try simp only [Bool.and_eq_true, beq_iff_eq, Bool.not_eq_true'] at h)
  · obtain ⟨⟨⟨⟨⟨h1, h2⟩, h3⟩, h4⟩, h5⟩, h6⟩ := h; exact sim_eqS ‹_› h1 h2 (by rw [beq_iff_eq]; exact h3) h4 h5 h6
  · exact sim_clear ‹_› rfl rfl rfl h.2 h.1
  · exact sim_mins ‹_› rfl h
  · exact sim_maxs ‹_› rfl h
end Go.Ab
