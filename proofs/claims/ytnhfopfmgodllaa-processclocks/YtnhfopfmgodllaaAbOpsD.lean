/-
  THE OPERATIONS, FOURTH PART: append.
-/
import Derived.Test.YtnhfopfmgodllaaAbOpsC
namespace Go.Ab
open Go
set_option linter.unusedSectionVars false
variable [Inhabited Unknowns]
variable {P : Program} {gl : List Nat} {o : Oper}

/-- A live block is given up. -/
theorem Rel.drop {μ : Mu} {S : St} {w : World} (h : Rel μ S w) {b : Nat} {L : Loc} (hL : μ b = some L) : Rel μ ⟨S.next, S.heap.put b none⟩ w ∧ Stp μ S w μ ⟨S.next, S.heap.put b none⟩ w := by
  have get : ∀ {b' o'}, (S.heap.put b none).get b' = some o' → b' ≠ b ∧ S.heap.get b' = some o' := fun {b' o'} e => by
    rw [Tr.get_put] at e
    split at e
    · cases e
    · exact ⟨‹_›, e⟩
  refine ⟨⟨h.dom, fun b' o' L' e e' => h.obj b' o' L' (get e).2 e', fun b1 b2 o1 o2 L1 L2 e1 e2 => h.inj b1 b2 o1 o2 L1 L2 (get e1).2 (get e2).2, fun b' o' e => h.fresh b' o' (get e).2⟩, ?_⟩
  refine ⟨Mu.le_refl μ, fun _ _ x y => (by rw [x] at y; cases y), Nat.le_refl _, fun b' e _ => ?_, Nat.le_refl _, fun _ _ _ => rfl, fun k hk => ?_, rfl, rfl, rfl⟩
  · exact Tr.get_put_ne _ _ fun x => by subst x; rw [hL] at e; cases e
  · obtain ⟨b', o', L', e, r, m, rfl⟩ := hk
    exact .inr ⟨b', o', L', (get e).2, r, m, rfl⟩

/-- A live block is given up, and a new abstract block takes its place in the world. -/
theorem Rel.reuse {μ : Mu} {S : St} {w w' : World} (h : Rel μ S w) {b : Nat} {L L' : Loc} {ob o : AObj} {O : Obj} (hb : S.heap.get b = some ob) (hro : ob.ro = false) (hL : μ b = some L) (hL' : L'.blk = L.blk)
    (h1 : w'.heap[L.blk]? = some O) (h2 : ∀ k, k ≠ L.blk → w'.heap[k]? = w.heap[k]?) (h3 : w'.heap.size = w.heap.size) (h4 : w'.os = w.os) (h5 : w'.tape = w.tape) (h6 : w'.output = w.output)
    (hO : ObjR (μ.add S.next L') L' o O) :
    Rel (μ.add S.next L') ⟨S.next + 1, (S.heap.put b none).put S.next (some o)⟩ w' ∧ Stp μ S w (μ.add S.next L') ⟨S.next + 1, (S.heap.put b none).put S.next (some o)⟩ w' := by
  have hnone := h.noNext
  have hbn : b < S.next := h.fresh _ _ hb
  have hbs : L.blk < w.heap.size := (h.dom _ _ hL).2
  have get : ∀ {k ok}, ((S.heap.put b none).put S.next (some o)).get k = some ok → (k = S.next ∧ ok = o) ∨ (k ≠ S.next ∧ k ≠ b ∧ S.heap.get k = some ok) := fun {k ok} e => by
    rw [Tr.get_put] at e
    split at e
    · exact .inl ⟨‹_›, (Option.some.inj e).symm⟩
    · rw [Tr.get_put] at e
      split at e
      · cases e
      · exact .inr ⟨‹_›, ‹_›, e⟩
  have old : ∀ {k M}, k ≠ S.next → (μ.add S.next L') k = some M → μ k = some M := fun {k M} hk e => by simpa [Mu.add, hk] using e
  have other : ∀ {k ok M}, k ≠ b → S.heap.get k = some ok → μ k = some M → M.blk ≠ L.blk := fun {k ok M} hne e e' heq => by
    have := (h.inj b k ob ok L M hb e hL e' heq.symm (fun x => hne x.symm)).1
    rw [hro] at this; cases this
  constructor
  · refine ⟨fun k M e => ?_, fun k ok M e e' => ?_, fun k1 k2 o1 o2 M1 M2 e1 e2 f1 f2 heq hne => ?_, fun k ok e => ?_⟩
    · by_cases hk : k = S.next
      · subst hk; rw [Mu.add_same] at e; obtain rfl := Option.some.inj e
        exact ⟨by simp, by rw [h3, hL']; exact hbs⟩
      · have := h.dom _ _ (old hk e); exact ⟨by simp; omega, by rw [h3]; exact this.2⟩
    · rcases get e with ⟨rfl, rfl⟩ | ⟨n1, n2, e⟩
      · rw [Mu.add_same] at e'; obtain rfl := Option.some.inj e'
        exact ⟨O, by rw [hL']; exact h1, hO⟩
      · obtain ⟨O', y1, y2⟩ := h.obj k ok M e (old n1 e')
        exact ⟨O', by rw [h2 _ (other n2 e (old n1 e'))]; exact y1, y2.mono (Mu.add_le L' hnone)⟩
    · rcases get e1 with ⟨rfl, rfl⟩ | ⟨n1, n2, g1⟩ <;> rcases get e2 with ⟨rfl, rfl⟩ | ⟨m1, m2, g2⟩
      · exact absurd rfl hne
      · rw [Mu.add_same] at f1; obtain rfl := Option.some.inj f1
        exact absurd (heq.symm.trans hL') (other m2 g2 (old m1 f2))
      · rw [Mu.add_same] at f2; obtain rfl := Option.some.inj f2
        exact absurd (heq.trans hL') (other n2 g1 (old n1 f1))
      · exact h.inj k1 k2 o1 o2 M1 M2 g1 g2 (old n1 f1) (old m1 f2) heq hne
    · rcases get e with ⟨rfl, rfl⟩ | ⟨n1, n2, e⟩
      · simp
      · have := h.fresh _ _ e; simp; omega
  · refine ⟨Mu.add_le L' hnone, fun k M e e0 => ?_, by simp, fun k e hk => ?_, by rw [h3]; exact Nat.le_refl _, fun k _ hk => ?_, fun k hk => ?_, h4, h5, h6⟩
    · by_cases hk : k = S.next
      · omega
      · rw [old hk e] at e0; cases e0
    · show ((S.heap.put b none).put S.next (some o)).get k = _
      rw [Tr.get_put_ne _ _ (by omega), Tr.get_put_ne _ _ fun x => by subst x; rw [hL] at e; cases e]
    · exact h2 k fun x => hk (x ▸ ro_of_held hb hro hL)
    · obtain ⟨k', ok, M, e, r, m, rfl⟩ := hk
      rcases get e with ⟨rfl, rfl⟩ | ⟨n1, n2, e⟩
      · rw [Mu.add_same] at m; obtain rfl := Option.some.inj m
        exact .inr (hL' ▸ ro_of_held hb hro hL)
      · exact .inr ⟨k', ok, M, e, r, old n1 m, rfl⟩

def u8s (s : List Nat) : List AV := s.map fun (b : Nat) => AV.int .u8 (b : Int)
theorem u8s_vrs {μ : Mu} : ∀ {l : List UInt8}, VRs μ (u8s (l.map UInt8.toNat)) (l.map fun b => Value.int .u8 b.toNat)
  | [] => .nil
  | _ :: _ => .cons (.int _ _) u8s_vrs
theorem u8s_scal : ∀ (s : List Nat), (u8s s).all scal = true
  | [] => rfl
  | _ :: s => by simp only [u8s, List.map_cons, List.all_cons, scal, Bool.true_and]; exact u8s_scal s

/-- What is appended or copied: all cells of a slice, or a string's bytes. -/
theorem firstCells_run {μ : Mu} {S : St} {w : World} (hR : Rel μ S w) {es m : Nat} {y : AV} {u : Value} {d : List AV} (hv : VR μ y u) (hn : lenOf y = some m) (hd : sliceCells S es y = some d) :
    ∃ D : Array Value, (Builtin.firstCells es m u).run P w = .ok D w ∧ VRs μ d D.toList ∧ d.all scal = true ∧ (Builtin.lenOf u).run P w = .ok m w ∧ d.length = m * es := by
  have nothing : ∀ x : Addr, (loadCells x 0).run P w = .ok #[] w := fun x => by simpa using run_loadCells_list (P := P) w x [] (by simp)
  unfold lenOf at hn
  unfold sliceCells at hd
  split at hn
  · obtain rfl := Option.some.inj hn
    cases hv
    obtain rfl : [] = d := by simpa using hd
    exact ⟨#[], by simp [Builtin.firstCells], .nil, rfl, by simp [Builtin.lenOf], by simp⟩
  · rename_i b o len cap
    obtain rfl := Option.some.inj hn
    have hlen : ∀ {a : Option Addr} {cc : Nat}, (Builtin.lenOf (.slice a len cc)).run P w = .ok len w := by intros; simp [Builtin.lenOf]
    by_cases h0 : len = 0
    · subst h0
      obtain rfl : [] = d := by simpa using hd
      cases hv <;> exact ⟨#[], by simp [Builtin.firstCells, nothing], .nil, rfl, hlen, by simp⟩
    · split at hd <;> (try (rename_i e; cases e; done)) <;> (try (cases hd; done))
      · rename_i e; cases e; exact absurd rfl h0
      · rename_i b' o' len' cap' hne e
        cases e
        split at hd
        · rename_i c hc
          cases hv with
          | slcK hL hcap =>
            obtain ⟨us, h1, h2, h3⟩ := load_cells (P := P) hR hc hL hd
            exact ⟨us.toArray, by simp [Builtin.firstCells, h1], by simpa using h2, h3, hlen, by obtain ⟨q1, q2⟩ := slice?_get hd; subst q2; simp; omega⟩
          | slcU hL hcap hco hs =>
            obtain rfl := hco h0
            obtain ⟨us, h1, h2, h3⟩ := load_cells (P := P) hR hc hL hd
            exact ⟨us.toArray, by simp [Builtin.firstCells, h1], by simpa using h2, h3, hlen, by obtain ⟨q1, q2⟩ := slice?_get hd; subst q2; simp; omega⟩
        · cases hd
  · rename_i s
    obtain rfl := Option.some.inj hn
    have hes : es = 1 ∧ u8s s = d := by
      simp only at hd
      split at hd
      · exact ⟨‹_›, by simpa [u8s] using hd⟩
      · cases hd
    obtain ⟨rfl, rfl⟩ := hes
    cases hv with
    | str hs =>
      rename_i bs
      subst hs
      have he : (bs.data.toList.map UInt8.toNat).length = bs.size := by rw [List.length_map, Array.length_toList]; rfl
      refine ⟨bs.data.map fun b => .int .u8 b.toNat, ?_, by simpa using u8s_vrs (μ := μ) (l := bs.data.toList), u8s_scal _, ?_, by simp [u8s]⟩
      · have : bs.extract 0 bs.size = bs := by apply ByteArray.ext; simp
        rw [he]
        simp only [Builtin.firstCells, this, Sem.run_pure]
      · rw [he]; simp only [Builtin.lenOf, Sem.run_pure]
  · cases hn

theorem growBy_le (n : Nat) : ∀ (r c B : Nat), c ≤ B → n ≤ B → Builtin.growBy n r c ≤ B + (B + 768) / 4
  | 0, c, B, h, _ => by simp [Builtin.growBy]; omega
  | r + 1, c, B, h, hn => by
    simp only [Builtin.growBy]
    split
    · omega
    · rename_i hc
      -- c < n
      rcases Nat.lt_or_ge (c + (c + 768) / 4) n with h1 | h1
      · exact growBy_le n r _ B (by omega) hn
      · cases r with
        | zero => simp [Builtin.growBy]; omega
        | succ r => simp only [Builtin.growBy]; rw [if_pos (by omega)]; omega
theorem nextcap_le {n c : Nat} (h : c < n) : Builtin.nextslicecap n c ≤ 2 * n + 1024 := by
  unfold Builtin.nextslicecap
  split
  · omega
  · split
    · omega
    · have := growBy_le n 4 c n (by omega) (Nat.le_refl n); omega

def appOk (P : Program) (c : Call) (es bytes : Nat) : Bool := match c.argTypes[0]? with
  | some t => match P.underlying t with
    | some (.slice e) => match P.info? e with
      | some i => i.size == es && i.bytes == bytes && (match i.zero with | some z => z.cells.size == es | none => false) &&
        (match c.argTypes[1]? with
          | some u => match P.underlying u with
            | some (.int _) => false
            | some .string => es == 1
            | some (.slice _) => true
            | _ => false
          | none => false)
      | none => false
    | _ => false
  | none => false

/-- append, by its parts. -/
theorem append_run {c : Call} {es bytes : Nat} (hc : appOk P c es bytes = true) (ty : TypeId) (base : Option Addr) (n cap m : Nat) (u : Value) {w : World} {D : Array Value} (hlen : (Builtin.lenOf u).run P w = .ok m w) (hD : (Builtin.firstCells es m u).run P w = .ok D w) :
    ∃ e, (n + m ≤ cap → (Builtin.append_ c.argTypes ty #[.slice base n cap, u]).run P w = ((match base with | some a => storeCells (a.add (n * es)) D.toList | none => pure () : Sem Unit).run P w).andThen fun _ w' => .ok (.slice base (n + m) cap) w') ∧
      (cap < n + m → (2 * (n + m) + 1024) * bytes ≤ 2 ^ 48 → n + m < 2 ^ 62 → ∃ (newCap : Nat) (Z : Array Value), n + m ≤ newCap ∧ Z.size = (newCap - (n + m)) * es ∧ ∀ C D : Array Value, (Builtin.firstCells es n (.slice base n cap)).run P w.drew = .ok C w.drew → (Builtin.firstCells es m u).run P w.drew = .ok D w.drew →
        (Builtin.append_ c.argTypes ty #[.slice base n cap, u]).run P w = .ok (.slice (some ⟨w.heap.size, 0, none⟩) (n + m) newCap) (w.drew.alloc (.cells (C ++ D ++ Z) e (0, 0)))) := by
  unfold appOk at hc
  split at hc <;> try (cases hc; done)
  rename_i t ht
  split at hc <;> try (cases hc; done)
  rename_i e hu
  split at hc <;> try (cases hc; done)
  rename_i i hi
  simp only [Bool.and_eq_true, beq_iff_eq] at hc
  obtain ⟨⟨⟨h1, h2⟩, h3⟩, h4⟩ := hc
  split at h3 <;> try (cases h3; done)
  rename_i z hz
  simp only [beq_iff_eq] at h3
  refine ⟨e, ?_⟩
  have hzeros : ∃ u', c.argTypes[1]? = some u' ∧ (P.underlying u' = some .string ∨ ∃ e', P.underlying u' = some (.slice e')) := by
    split at h4 <;> try (cases h4; done)
    rename_i u' hu'
    refine ⟨u', hu', ?_⟩
    split at h4 <;> first | (cases h4; done) | exact .inl ‹_› | exact .inr ⟨_, ‹_›⟩
  obtain ⟨u', hu', hd⟩ := hzeros
  constructor
  · intro hfit
    rcases hd with hd | ⟨e', hd⟩ <;> cases base <;> simp [Builtin.append_, ht, hu', r_underlying hu, r_underlying hd, r_sizeOf hi, h1, hlen, hfit, hD]
  · intro hgrow hb hnm
    have hq : (Question.appendCap (n + m) cap e).forced = false := rfl
    have hge : n + m ≤ (Question.appendCap (n + m) cap e).cut (w.tape w.drawn (.appendCap (n + m) cap e)) := by simp [Question.cut]
    refine ⟨(Question.appendCap (n + m) cap e).cut (w.tape w.drawn (.appendCap (n + m) cap e)), Builtin.zeroCells z.cells ((Question.appendCap (n + m) cap e).cut (w.tape w.drawn (.appendCap (n + m) cap e)) - (n + m)), hge, by simp [Builtin.zeroCells, h3], fun C D hC hD' => ?_⟩
    have hno : ¬ (n + m ≤ cap) := by omega
    have hmax : ¬ ((IntKind.i64.max < ((n + m : Nat) : Int)) ∧ i.bytes = 0) := by
      simp [IntKind.max, IntKind.signed, IntKind.bits]; omega
    have hnext : ¬ (2 ^ 48 < Builtin.nextslicecap (n + m) cap * i.bytes) := by
      have h5 := nextcap_le (n := n + m) (c := cap) (by omega)
      have h6 := Nat.mul_le_mul_right i.bytes h5
      rw [h2] at *
      omega
    rcases hd with hd | ⟨e', hd⟩ <;>
    · simp only [Builtin.append_, ht, hu', r_underlying hu, r_underlying hd, r_sizeOf hi, h1, hlen, Sem.run_bind, Result.andThen_ok, List.getElem?_toArray, List.getElem?_cons_zero, List.getElem?_cons_succ, Sem.run_pure, Bool.false_eq_true, if_false, false_or, r_typeInfo hi, Sem.run_ite, hno, gt_iff_lt]
      rw [if_neg hmax, if_neg hnext]
      simp only [run_choose, hq, Bool.false_eq_true, if_false, Result.andThen_ok, run_askRoom, World.drew_eq, hC, hD', r_zero hi hz, Bool.not_false, if_true, newRow, Sem.run_bind, run_newObj, Sem.run_pure, World.alloc_eq, World.size_drew]

theorem slice_form {μ : Mu} {x : AV} {u : Value} {n : Nat} (hv : VR μ x u) (hn : lenSl x = some n) : ∃ base cap, u = .slice base n cap ∧ n ≤ cap := by
  unfold lenSl at hn
  split at hn
  · obtain rfl := Option.some.inj hn; cases hv; exact ⟨_, _, rfl, Nat.le_refl _⟩
  · obtain rfl := Option.some.inj hn; cases hv <;> exact ⟨_, _, rfl, ‹_›⟩
  · cases hn
theorem lenOf_of_lenSl {x : AV} {n : Nat} (h : lenSl x = some n) : lenOf x = some n := by
  unfold lenSl at h; split at h <;> first | exact h | cases h

/-- Behind an append that made a new block. -/
theorem grown_rel {μ : Mu} {S : St} {w : World} (hR : Rel μ S w) {es n m newCap : Nat} {c d : List AV} {C D Z : Array Value} (e : TypeId) (hc : VRs μ c C.toList) (hd : VRs μ d D.toList) (sc : c.all scal = true) (sd : d.all scal = true) (lc : c.length = n * es) (ld : d.length = m * es) (hge : n + m ≤ newCap) (hZ : Z.size = (newCap - (n + m)) * es) :
    ∃ μ' u, VR μ' (.slc S.next 0 (n + m) none) u ∧ u = .slice (some ⟨w.heap.size, 0, none⟩) (n + m) newCap ∧ Rel μ' (new S (.cells (some es) false (c ++ d))) (w.drew.alloc (.cells (C ++ D ++ Z) e (0, 0))) ∧ Stp μ S w μ' (new S (.cells (some es) false (c ++ d))) (w.drew.alloc (.cells (C ++ D ++ Z) e (0, 0))) := by
  have hl : (C ++ D ++ Z).size = newCap * es := by
    have h1 := hc.length
    have h2 := hd.length
    simp at h1 h2
    simp only [Array.size_append, h1, h2, lc, ld, hZ]
    rw [← Nat.add_mul, ← Nat.add_mul]; congr 1; omega
  have hvs := hc.append hd
  have hR' := hR.drew
  obtain ⟨k1, k2⟩ := hR'.alloc (o := .cells (some es) false (c ++ d)) (O := .cells (C ++ D ++ Z) e (0, 0)) (L := ⟨w.heap.size, 0, newCap * es, es⟩) (w' := w.drew.alloc (.cells (C ++ D ++ Z) e (0, 0))) rfl (by exact World.heap_alloc_new _ _) (fun k hk => RowKit.Below.heap_alloc _ _ _ hk) (by simp) rfl rfl rfl (by
    refine .cells hl (by rw [hl]; simp [lc, ld]; rw [← Nat.add_mul]; exact Nat.mul_le_mul_right _ hge) ?_ (by simp only [List.all_append, sc, sd, Bool.and_self]) (by simp) (by simp) (fun es' x => by simpa using x)
    have := hvs.mono (Mu.add_le ⟨w.heap.size, 0, newCap * es, es⟩ hR.noNext)
    have e1 : ((C ++ D ++ Z).toList.drop 0).take (c ++ d).length = C.toList ++ D.toList := by
      have h1 := hc.length
      have h2 := hd.length
      simp at h1 h2
      simp only [List.drop_zero, Array.toList_append, List.length_append]
      rw [List.take_append_of_le_length (by simp; omega), List.take_of_length_le (by simp; omega)]
    rw [e1]; exact this)
  refine ⟨_, _, VR.slcU (o := 0) (co := 0) (cap := newCap) (Mu.add_same _ _ _) hge (fun _ => rfl) (by simp), rfl, k1, ?_⟩
  exact Stp.trans (Stp.drew (μ := μ) (S := S) (w := w)) k2

theorem sim_append {c : Call} {es bytes : Nat} {x y : X} {y1 y2 : Operand} (ho : o.op = .call c) (hcal : c.callee = .builtin .append) (ha : c.args = #[y1, y2]) (h1 : opdOk gl y1 x = true) (h2 : opdOk gl y2 y = true) (hap : appOk P c es bytes = true) : OpR P gl o (do_append es bytes x y) := by
  intro μ S w fr a N v S' hg hR hf h
  have hex : ∀ r w', (Builtin.append_ c.argTypes o.type #[a.eval y1, a.eval y2]).run P w = .ok r w' → (execOp a.eval o).run P w = .ok (.value r) w' := fun r w' e => by
    simp [execOp, ho, resolve, hcal, ha, invoke, builtin, e]
  unfold do_append at h
  split at h
  rotate_left
  · cases h
  rename_i u u2 hu hu2
  have r1 := opd_vr h1 hg hf hu
  have r2 := opd_vr h2 hg hf hu2
  unfold appendA at h
  split at h
  rotate_left
  · cases h
  rename_i n m cx d hn hm hcx hd
  obtain ⟨D, hD, vD, sD, lD, lnD⟩ := firstCells_run (P := P) hR r2 hm hd
  obtain ⟨D', hD', vD', _⟩ := firstCells_run (P := P) hR.drew r2 hm hd
  obtain ⟨C', hC', vC', sC', _, lnC'⟩ := firstCells_run (P := P) hR.drew r1 (lenOf_of_lenSl hn) hcx
  have dD := vD.length
  simp at dD
  obtain ⟨base, cap, eu, hcap⟩ := slice_form r1 hn
  obtain ⟨e, hroom, hgrow⟩ := append_run (P := P) hap o.type base n cap m (a.eval y2) lD hD
  rw [← eu] at hroom hgrow
  split at h
  · -- nothing is appended
    rename_i hm0
    subst hm0
    obtain ⟨rfl, rfl⟩ : u = v ∧ S = S' := by simpa using h
    refine .pure hR (u := a.eval y1) (hex _ _ ?_) r1
    rw [hroom hcap]
    have hz : D.toList = [] := List.eq_nil_of_length_eq_zero (by rw [Nat.zero_mul] at lnD; rw [Array.length_toList]; omega)
    cases base with
    | none => simp [eu]
    | some b => simp [hz, storeCells, eu]
  split at h
  rotate_left
  · cases h
  rename_i hm0 hlim
  -- a new block
  have fresh : ∀ {S0 : St}, Rel μ S0 w → S0.next = S.next → cap < n + m → Stp μ S w μ S0 w → v = .slc S.next 0 (n + m) none → S' = new S0 (.cells (some es) false (cx ++ d)) → Came μ S w ((execOp a.eval o).run P w) v S' := fun {S0} hR0 hn0 hlt hst ev eS => by
    obtain ⟨newCap, Z, q1, q2, q3⟩ := hgrow hlt hlim.1 hlim.2
    have hR0' : Rel μ S0 w := hR0
    obtain ⟨μ', u', g1, g2, g3, g4⟩ := grown_rel hR0' e vC' vD' sC' sD lnC' lnD q1 q2
    refine ⟨μ', _, u', .inl (by rw [g2]; exact hex _ _ (q3 C' D' hC' hD')), ?_, by rw [eS]; exact g3, by rw [eS]; exact hst.trans g4⟩
    rw [ev, ← hn0]; exact g1
  cases u with
  | nils =>
    cases r1x : a.eval y1 <;> rw [r1x] at r1 <;> cases r1
    rw [r1x] at eu
    simp only [Value.slice.injEq] at eu
    obtain ⟨_, rfl, rfl⟩ := eu
    simp only [Option.some.injEq, Prod.mk.injEq] at h
    exact fresh hR rfl (by omega) (Stp.refl _ _ _) h.1.symm h.2.symm
  | slc b off len cap' =>
    obtain rfl : len = n := by simpa [lenSl] using hn
    cases cap' with
    | some cap1 =>
      have r1' := r1
      cases r1x : a.eval y1 <;> rw [r1x] at r1 <;> cases r1
      rename_i L hL hle
      rw [r1x] at eu
      simp only [Value.slice.injEq] at eu
      obtain ⟨rfl, _, rfl⟩ := eu
      simp only at h
      split at h
      · rename_i hfit
        split at h
        · rename_i S1 hst
          simp only [Option.some.injEq, Prod.mk.injEq] at h
          obtain ⟨rfl, rfl⟩ := h
          obtain ⟨w', s1, s2, s3⟩ := store_cells (P := P) hR hst hL vD sD
          refine ⟨μ, w', .slice (some ⟨L.blk, L.off + off, none⟩) (len + m) cap1, .inl (hex _ _ ?_), .slcK hL hfit, s2, s3⟩
          rw [hroom hfit]
          simp only [add_at, Nat.add_assoc, s1, Result.andThen_ok]
        · cases h
      · rename_i hfit
        simp only [Option.some.injEq, Prod.mk.injEq] at h
        exact fresh hR rfl (by omega) (Stp.refl _ _ _) h.1.symm h.2.symm
    | none =>
      simp only at h
      split at h
      rotate_left
      · cases h
      rename_i es' known hb
      split at h
      rotate_left
      · cases h
      rename_i hes
      subst hes
      simp only [Option.some.injEq, Prod.mk.injEq] at h
      obtain ⟨L, co, cc, hL, r1x, hle, hco, _, hsU⟩ := evX_slc h1 hg hf hu
      have hs := hsU rfl
      rw [r1x] at eu
      simp only [Value.slice.injEq] at eu
      obtain ⟨rfl, _, rfl⟩ := eu
      by_cases hfit : len + m ≤ cc
      · -- in place
        obtain ⟨Cb, E, fz, q1, q2, q3, q4, q5, q6, q7, q8⟩ := hR.at hb hL
        have hes2 := q8 es' rfl
        have hln : co + len * es' + D.toList.length ≤ Cb.size := by
          have : (len + m) * es' ≤ cc * es' := Nat.mul_le_mul_right _ hfit
          rw [Nat.add_mul] at this
          rw [hes2] at hs
          simp; omega
        have hrun := run_storeCells_cells (P := P) L.blk (co + len * es') D.toList 0 w
          (fun j hj => by rw [cell_of q1, Array.getElem?_eq_getElem (by omega)]; rfl)
          (fun j hj => by
            rw [frozen_of q1]
            have := q6 rfl (co + len * es' + 0 + j) (by omega)
            by_cases x : fz.1 ≤ co + len * es' + 0 + j
            · have := this x; simp; omega
            · simp; omega)
          (fun q hq => by
            obtain ⟨i, hi, rfl⟩ := List.getElem_of_mem hq
            obtain ⟨v1, hv1, hv2⟩ := vD.get' i D.toList[i] (by rw [List.getElem?_eq_getElem hi])
            rw [List.all_eq_true] at sD
            exact hv2.one (sD v1 (List.mem_of_getElem? hv1)))
        obtain ⟨a1, a2, a3, a4, a5, a6⟩ := setCells_heap L.blk D.toList (co + len * es' + 0) w Cb E fz q1
        -- the cells ahead of what is appended
        have hold : ∃ us : List Value, VRs μ cx us ∧ us = (Cb.toList.drop co).take (len * es') := by
          by_cases h0 : len = 0
          · subst h0
            obtain rfl : [] = cx := by simpa [sliceCells] using hcx
            exact ⟨[], .nil, by simp⟩
          · have hco' := hco h0
            have hk : cellsOf S b = some known := by simp [cellsOf, hb]
            have hsl : slice? known off (len * es') = some cx := by
              unfold sliceCells at hcx
              split at hcx <;> (try (rename_i e; cases e; done)) <;> (try (cases hcx; done))
              · rename_i e; cases e; exact absurd rfl h0
              · rename_i e; cases e; rw [hk] at hcx; exact hcx
            obtain ⟨p1, p2⟩ := slice?_get hsl
            refine ⟨_, ?_, rfl⟩
            have h2 := (q4.drop off).take (len * es')
            rw [← p2] at h2
            have e2 : List.take (len * es') (List.drop off (List.take known.length (List.drop L.off Cb.toList))) = (Cb.toList.drop co).take (len * es') := by
              apply List.ext_getElem?
              intro i
              by_cases hi : i < len * es'
              · rw [List.getElem?_take_of_lt hi, List.getElem?_drop, List.getElem?_take_of_lt (by omega), List.getElem?_drop, List.getElem?_take_of_lt hi, List.getElem?_drop, hco']
                congr 1; omega
              · rw [List.getElem?_eq_none (by simp; omega), List.getElem?_eq_none (by simp; omega)]
            rwa [e2] at h2
        obtain ⟨us, hus, eus⟩ := hold
        have lcx : cx.length = len * es' := lnC'
        obtain ⟨k1, k2⟩ := hR.reuse (L' := ⟨L.blk, co, L.size, es'⟩) (o := .cells (some es') false (cx ++ d)) hb rfl hL rfl a1 a2 a3 a4 a5 a6 (by
          refine .cells (by rw [lay_size]; exact q2) (by rw [lay_size]; simp only [List.length_append, lcx, lnD]; simp at hln; omega) ?_ (by simp only [List.all_append, sC', sD, Bool.and_self]) (by rw [lay_size]; exact q6) (by simp) (fun es x => by simpa using x)
          have le := Mu.add_le ⟨L.blk, co, L.size, es'⟩ hR.noNext
          have hall := (hus.append vD).mono le
          have e3 : us ++ D.toList = ((lay Cb (co + len * es' + 0) D.toList).toList.drop co).take (cx ++ d).length := by
            have lus := hus.length
            apply List.ext_getElem?
            intro i
            by_cases hi : i < (cx ++ d).length
            · rw [seg_get hi, lay_get _ _ _ _ (by simp at hln ⊢; omega)]
              by_cases hi2 : i < len * es'
              · rw [List.getElem?_append_left (by omega), if_neg (by omega), eus, seg_get hi2]
              · rw [List.getElem?_append_right (by omega), if_pos (by simp only [List.length_append, lcx, lnD] at hi; simp; omega)]
                congr 1; omega
            · have := vD.length
              rw [List.getElem?_eq_none (by simp at hi ⊢; omega), List.getElem?_eq_none (by simp at hi ⊢; omega)]
          rw [← e3]; exact hall)
        refine ⟨_, _, .slice (some ⟨L.blk, co, none⟩) (len + m) cc, .inl (hex _ _ ?_), ?_, by rw [← h.2]; exact k1, by rw [← h.2]; exact k2⟩
        · rw [hroom hfit]
          simp only [add_at, hrun, Result.andThen_ok]
        · rw [← h.1]
          exact VR.slcU (L := ⟨L.blk, co, L.size, es'⟩) (o := 0) (Mu.add_same _ _ _) hfit (fun _ => rfl) (by rw [hes2] at hs; exact hs)
      · obtain ⟨d1, d2⟩ := hR.drop hL
        exact fresh d1 rfl (by omega) d2 h.1.symm h.2.symm
  | _ => simp [lenSl] at hn
end Go.Ab
