/-
  A part of the proof: contracts of functions of the program, over the abstract machine.
-/
import Derived.Test.YtnhfopfmgodllaaL1
noncomputable section
namespace Go.Sl
open Go Go.Ab Cd
set_option linter.unusedVariables false
set_option linter.unusedSimpArgs false
set_option maxRecDepth 10000

theorem splice_spec : ∀ {c : List AV} {o : Nat} {l : List AV}, o + l.length ≤ c.length → splice c o l = some (c.take o ++ l ++ c.drop (o + l.length))
  | [], 0, [], _ => rfl
  | x :: c, 0, [], _ => by simp [splice]
  | [], o + 1, l, h => by simp at h
  | [], 0, y :: l, h => by simp at h
  | x :: c, o + 1, l, h => by
    have := splice_spec (c := c) (o := o) (l := l) (by simp at h; omega)
    simp only [splice, this, List.take_succ_cons, List.cons_append, show o + 1 + l.length = (o + l.length) + 1 by omega, List.drop_succ_cons]
  | x :: c, 0, y :: l, h => by
    have := splice_spec (c := c) (o := 0) (l := l) (by simp at h ⊢; omega)
    simp only [splice, this, List.take_zero, List.nil_append, List.cons_append, List.length_cons, Nat.zero_add, List.drop_succ_cons]
section
variable {α : Type} {f : α → List AV} {es : Nat}
theorem flat_len (hf : ∀ a, (f a).length = es) : ∀ l : List α, (l.flatMap f).length = l.length * es
  | [] => by simp
  | a :: l => by simp only [List.flatMap_cons, List.length_append, flat_len hf l, hf, List.length_cons, Nat.add_mul]; omega
theorem flat_take (hf : ∀ a, (f a).length = es) : ∀ (l : List α) (i : Nat), (l.flatMap f).take (i * es) = (l.take i).flatMap f
  | l, 0 => by simp
  | [], i + 1 => by simp
  | a :: l, i + 1 => by
    have e : (i + 1) * es = (f a).length + i * es := by rw [hf, Nat.add_mul]; omega
    rw [List.flatMap_cons, e, List.take_append, List.take_of_length_le (by omega), show (f a).length + i * es - (f a).length = i * es by omega, List.take_succ_cons, List.flatMap_cons, flat_take hf l i]
theorem flat_drop (hf : ∀ a, (f a).length = es) : ∀ (l : List α) (i : Nat), (l.flatMap f).drop (i * es) = (l.drop i).flatMap f
  | l, 0 => by simp
  | [], i + 1 => by simp
  | a :: l, i + 1 => by
    have e : (i + 1) * es = (f a).length + i * es := by rw [hf, Nat.add_mul]; omega
    rw [List.flatMap_cons, e, List.drop_append, List.drop_of_length_le (by omega), List.nil_append, show (f a).length + i * es - (f a).length = i * es by omega, List.drop_succ_cons, flat_drop hf l i]
theorem part_flat (hf : ∀ a, (f a).length = es) {l : List α} {i : Nat} (h : i < l.length) : Ab.part (l.flatMap f) (0 + i * es) (some es) = some (.agg (f l[i])) := by
  have hle : i * es + es ≤ (l.flatMap f).length := by
    rw [flat_len hf]
    have : (i + 1) * es ≤ l.length * es := Nat.mul_le_mul_right es h
    rw [Nat.add_mul] at this; omega
  rw [Nat.zero_add]
  show (match slice? (l.flatMap f) (i * es) es with | some l => some (AV.agg l) | none => none) = _
  rw [slice?_mk hle, flat_drop hf, List.drop_eq_getElem_cons h, List.flatMap_cons]
  simp only [List.take_left' (hf _)]
theorem splice_flat (hf : ∀ a, (f a).length = es) {l : List α} {i : Nat} {x : α} (h : i < l.length) : splice (l.flatMap f) (0 + i * es) (f x) = some ((l.set i x).flatMap f) := by
  have hle : i * es + (f x).length ≤ (l.flatMap f).length := by
    rw [flat_len hf, hf]
    have : (i + 1) * es ≤ l.length * es := Nat.mul_le_mul_right es h
    rw [Nat.add_mul] at this; omega
  rw [Nat.zero_add, splice_spec hle, hf, show i * es + es = (i + 1) * es by rw [Nat.add_mul]; omega, flat_take hf, flat_drop hf, List.set_eq_take_append_cons_drop, if_pos h, List.flatMap_append, List.flatMap_cons, List.append_assoc]
end
theorem laneF_len (a : Lane) : (laneF a).length = 3 := rfl

/-! ### The order of lanes -/
def lt (a b : Lane) : Prop := cmpL a b < 0
def le (a b : Lane) : Prop := ¬ cmpL b a < 0
theorem cmpL_swap (a b : Lane) : cmpL b a = - cmpL a b := by
  unfold cmpL cmpI
  split <;> split <;> (repeat' split) <;> omega
theorem le_of_lt {a b : Lane} (h : lt a b) : le a b := by unfold lt le at *; rw [cmpL_swap]; omega
/-- The same elements, those outside a stretch where they were. -/
structure SegP (a b : Nat) (xs ys : List Lane) : Prop where
  perm : ys.Perm xs
  out : ∀ p, p < a ∨ b ≤ p → ys[p]? = xs[p]?
theorem SegP.refl (a b : Nat) (xs : List Lane) : SegP a b xs xs := ⟨.refl _, fun _ _ => rfl⟩
theorem SegP.trans {a b : Nat} {xs ys zs : List Lane} (h : SegP a b xs ys) (k : SegP a b ys zs) : SegP a b xs zs := ⟨k.perm.trans h.perm, fun p hp => (k.out p hp).trans (h.out p hp)⟩
theorem SegP.len {a b : Nat} {xs ys : List Lane} (h : SegP a b xs ys) : ys.length = xs.length := h.perm.length_eq
theorem SegP.swap {a b : Nat} {xs : List Lane} {i j : Nat} (hi : i < xs.length) (hj : j < xs.length) (ia : a ≤ i) (ib : i < b) (ja : a ≤ j) (jb : j < b) : SegP a b xs ((xs.set i xs[j]).set j xs[i]) :=
  ⟨List.set_set_perm hi hj, fun p hp => by rw [List.getElem?_set_ne (by omega), List.getElem?_set_ne (by omega)]⟩
/-- Is a stretch in order? -/
def Sorted (a b : Nat) (xs : List Lane) : Prop := ∀ p, a < p → p < b → le (xs.getD (p - 1) default) (xs.getD p default)
/-- The element at 'j' may be too far back. -/
def Sinks (a i j : Nat) (xs : List Lane) : Prop :=
  (∀ p, a < p → p ≤ i → p ≠ j → le (xs.getD (p - 1) default) (xs.getD p default)) ∧ (a < j → j < i → le (xs.getD (j - 1) default) (xs.getD (j + 1) default))
theorem getD_swap {xs : List Lane} {i j p : Nat} (hi : i < xs.length) (hj : j < xs.length) : ((xs.set i xs[j]).set j xs[i]).getD p default = if p = j then xs.getD i default else if p = i then xs.getD j default else xs.getD p default := by
  simp only [List.getD_eq_getElem?_getD, List.getElem?_set, List.length_set]
  by_cases h1 : j = p
  · subst h1; simp [hj, hi]
  · by_cases h2 : i = p
    · subst h2; simp [h1, hi, hj, Ne.symm h1]
    · simp [h1, h2, Ne.symm h1, Ne.symm h2]
theorem Sinks.step {a i j : Nat} {xs : List Lane} (h : Sinks a i j xs) (ha : a < j) (hi : j ≤ i) (hl : i < xs.length) (hlt : lt (xs.getD j default) (xs.getD (j - 1) default)) :
    Sinks a i (j - 1) ((xs.set j (xs[j - 1]'(by omega))).set (j - 1) (xs[j]'(by omega))) := by
  have g := fun p => getD_swap (xs := xs) (i := j) (j := j - 1) (p := p) (by omega) (by omega)
  refine ⟨fun p hp1 hp2 hp3 => ?_, fun h1 h2 => ?_⟩
  · rw [g, g]
    by_cases e : p = j
    · subst e
      rw [if_pos rfl, if_neg (by omega), if_pos rfl]
      exact le_of_lt hlt
    · by_cases e2 : p = j + 1
      · subst e2
        rw [if_neg (by omega), if_pos (by omega), if_neg (by omega), if_neg (by omega)]
        exact h.2 ha (by omega)
      · rw [if_neg (by omega), if_neg (by omega), if_neg (by omega), if_neg (by omega)]
        exact h.1 p hp1 hp2 e
  · rw [g, g, if_neg (by omega), if_neg (by omega), if_neg (by omega), if_pos (by omega)]
    exact h.1 (j - 1) h1 (by omega) (by omega)
theorem Sinks.start {a i : Nat} {xs : List Lane} (h : Sorted a i xs) : Sinks a i i xs := ⟨fun p h1 h2 h3 => h p h1 (by omega), fun _ h => by omega⟩
theorem Sinks.done {a i j : Nat} {xs : List Lane} (h : Sinks a i j xs) (hd : ¬ a < j ∨ le (xs.getD (j - 1) default) (xs.getD j default)) : Sorted a (i + 1) xs := fun p h1 h2 => by
  by_cases e : p = j
  · subst e
    rcases hd with hd | hd
    · exact absurd h1 hd
    · exact hd
  · exact h.1 p h1 (by omega) e

theorem ct_insert {G : GB} {blk : Nat} {op : Option Nat} {cap : Option Nat} {n a b : Nat} {xs : List Lane} (hn : n = xs.length) (ha : a ≤ b) (hb : b ≤ n) (hN : n < 1000000) :
    Ct prog n_slices_insertionSortCmpFunc_lane_Lane [.slc blk 0 n cap, intN a, intN b, .fn n_lane_Of_1 []] G [pt blk (.cells op false (xs.flatMap laneF))]
      (fun v G' H' => G = G' ∧ ∃ ys, SegP a b xs ys ∧ Sorted a b ys ∧ H' = [pt blk (.cells op false (ys.flatMap laneF))]) := by
  refine ct_body (fn := f_slices_insertionSortCmpFunc_lane_Lane) rfl rfl rfl ?_
  repeat refine wp_seq ?_
  refine wp_ops ?_
  refine s_mv ?_; refine s_ad ?_; refine s_mv ?_; refine wpi_nil ?_
  repeat refine wp_seq ?_
  refine wp_block ?_
  refine wp_loopX (α := List Lane) (b - (a + 1)) (fun k _ => [(8, intN (a + 1 + k)), (0, .slc blk 0 n cap), (1, intN a), (2, intN b), (3, .fn n_lane_Of_1 [])]) (fun k ys => [pt blk (.cells op false (ys.flatMap laneF))])
    (fun k ys => SegP a b xs ys ∧ Sorted a (a + 1 + k) ys) xs ⟨.refl _ _ _, fun p h1 h2 => by omega⟩ (by repeat (first | exact SubE.nil | refine SubE.cons rfl ?_)) (by repeat (first | exact HLe.refl | apply HLe.cons | apply HLe.drop)) ?_
  rintro k ys hk ⟨hp, hs⟩
  have hyl := hp.len
  repeat refine wp_seq ?_
  refine wp_ops ?_
  refine s_mv ?_; refine s_mv ?_; refine s_ib ?_; refine wpi_nil ?_
  repeat refine wp_seq ?_
  refine wp_cond rfl (fun h1 => ?_) (fun h1 => ?_)
  · have hlt : a + 1 + k < b := by have := of_decide_eq_true h1; omega
    clear h1
    repeat refine wp_seq ?_
    refine wp_skip ?_
    refine wp_seq ?_
    repeat refine wp_seq ?_
    refine wp_block ?_
    repeat refine wp_seq ?_
    refine wp_ops ?_
    refine s_mv ?_; refine s_mv ?_; refine wpi_nil ?_
    repeat refine wp_seq ?_
    refine wp_block ?_
    refine wp_loopX (α := List Lane) (1 + k) (fun m _ => [(9, intN (a + 1 + k - m)), (8, intN (a + 1 + k)), (0, .slc blk 0 n cap), (1, intN a), (2, intN b), (3, .fn n_lane_Of_1 [])]) (fun m zs => [pt blk (.cells op false (zs.flatMap laneF))])
      (fun m zs => SegP a b xs zs ∧ Sinks a (a + 1 + k) (a + 1 + k - m) zs) ys ⟨hp, Sinks.start hs⟩ (by repeat (first | exact SubE.nil | refine SubE.cons rfl ?_)) (by repeat (first | exact HLe.refl | apply HLe.cons | apply HLe.drop)) ?_
    rintro m zs hm ⟨hpz, hsz⟩
    have hzl := hpz.len
    obtain ⟨j, hj⟩ : ∃ j, j = a + 1 + k - m := ⟨_, rfl⟩
    rw [← hj] at hsz ⊢
    refine wp_seq ?_
    refine wp_seq ?_
    refine wp_ops ?_
    refine s_mv ?_; refine s_mv ?_; refine s_ib ?_; refine s_mv ?_
    have done : ∀ {E' H'}, SubE E' [(8, intN (a + 1 + k)), (0, .slc blk 0 n cap), (1, intN a), (2, intN b), (3, .fn n_lane_Of_1 [])] → HLe G H' [pt blk (.cells op false (zs.flatMap laneF))] → (¬ a < j ∨ le (zs.getD (j - 1) default) (zs.getD j default)) →
        ∀ {Q}, Wp prog G (.ops [] o_slices_insertionSortCmpFunc_lane_Lane_6) E' H' (onN (fun G2 E2 H2 => G2 = G ∧ k < b - (a + 1) ∧ ∃ y, (SegP a b xs y ∧ Sorted a (a + 1 + (k + 1)) y) ∧ SubE E2 [(8, intN (a + 1 + (k + 1))), (0, .slc blk 0 n cap), (1, intN a), (2, intN b), (3, .fn n_lane_Of_1 [])] ∧ HLe G2 H2 [pt blk (.cells op false (y.flatMap laneF))]) Q) := by
      intro E' H' hs hh hd Q
      refine Wp.pre ?_ hs hh
      repeat refine wp_seq ?_
      refine wp_ops ?_
      refine s_mv ?_; refine s_ad ?_; refine s_mv ?_; refine wpi_nil ?_
      refine ⟨rfl, by omega, zs, ⟨hpz, hsz.done hd⟩, ?_, by repeat (first | exact HLe.refl | apply HLe.cons | apply HLe.drop)⟩
      repeat (first | exact SubE.nil | refine SubE.cons rfl ?_)
    refine wpi_case 21 rfl (fun h => ?_) (fun h => ?_)
    · have hja : a < j := by have := of_decide_eq_true h; omega
      have e1 : ((j : Int) - 1).toNat = j - 1 := by omega
      have g1 : Ab.part (zs.flatMap laneF) (0 + j * 3) (some 3) = some (.agg (laneF (zs.getD j default))) := by rw [part_flat laneF_len (by omega), getD_lt (by omega)]
      have g2 : Ab.part (zs.flatMap laneF) (0 + ((j : Int) - 1).toNat * 3) (some 3) = some (.agg (laneF (zs.getD (j - 1) default))) := by rw [e1, part_flat laneF_len (by omega), getD_lt (by omega)]
      first
        | refine s_gn ?_
        | refine s_gy ?_
          refine s_mv ?_
      first
        | refine s_gn ?_
        | refine s_gy ?_
          refine s_mv ?_
      first
        | refine s_gn ?_
        | refine s_gy ?_
          refine s_mv ?_
      first
        | refine s_gn ?_
        | refine s_gy ?_
          first | refine s_ix ?_ | refine s_ixi ?_
      first
        | refine s_gn ?_
        | refine s_gy ?_
          refine s_ld ?_
      first
        | refine s_gn ?_
        | refine s_gy ?_
          refine s_mv ?_
      first
        | refine s_gn ?_
        | refine s_gy ?_
          refine s_mv ?_
      first
        | refine s_gn ?_
        | refine s_gy ?_
          refine s_sb ?_
      first
        | refine s_gn ?_
        | refine s_gy ?_
          first | refine s_ix ?_ | refine s_ixi ?_
      first
        | refine s_gn ?_
        | refine s_gy ?_
          refine s_ld ?_
      first
        | refine s_gn ?_
        | refine s_gy ?_
          refine wpi_callV rfl rfl (ct_cmpL) (by repeat (first | exact HLe.splitNil | (apply HLe.splitCons; focus (repeat (first | exact Take.head | apply Take.tail))))) ?_
          rintro v32 G32 H32 le32 ⟨rfl, rfl, rfl⟩
          try simp only [List.nil_append, List.cons_append]
      first
        | refine s_gn ?_
        | refine s_gy ?_
          refine s_ib ?_
      (first | refine s_pt ?_ | refine s_pf ?_ | refine s_pb ?_); refine wpi_nil ?_
      repeat refine wp_seq ?_
      refine wp_cond rfl (fun h1 => ?_) (fun h1 => ?_)
      · have hc : lt (zs.getD j default) (zs.getD (j - 1) default) := by
          have := of_decide_eq_true h1
          exact this
        have s1 : splice (zs.flatMap laneF) (0 + j * 3) (laneF (zs.getD (j - 1) default)) = some ((zs.set j (zs.getD (j - 1) default)).flatMap laneF) := splice_flat laneF_len (by omega)
        have s2 : splice ((zs.set j (zs.getD (j - 1) default)).flatMap laneF) (0 + ((j : Int) - 1).toNat * 3) (laneF (zs.getD j default)) = some (((zs.set j (zs.getD (j - 1) default)).set (j - 1) (zs.getD j default)).flatMap laneF) := by
          rw [e1]; exact splice_flat laneF_len (by simp; omega)
        have hsw : SegP a b zs ((zs.set j (zs.getD (j - 1) default)).set (j - 1) (zs.getD j default)) := by
          rw [getD_lt (by omega), getD_lt (by omega)]; exact SegP.swap (by omega) (by omega) (by omega) (by omega) (by omega) (by omega)
        have hst : Sinks a (a + 1 + k) (j - 1) ((zs.set j (zs.getD (j - 1) default)).set (j - 1) (zs.getD j default)) := by
          have := hsz.step hja (by omega) (by omega) hc
          rwa [← getD_lt (a := default) (show j - 1 < zs.length by omega), ← getD_lt (a := default) (show j < zs.length by omega)] at this
        repeat refine wp_seq ?_
        refine wp_skip ?_
        refine wp_seq ?_
        repeat refine wp_seq ?_
        refine wp_block ?_
        repeat refine wp_seq ?_
        refine wp_ops ?_
        refine s_mv ?_; refine s_mv ?_; refine s_mv ?_; refine s_mv ?_; refine s_sb ?_; refine s_mv ?_; refine s_mv ?_; refine s_sb ?_; (first | refine s_ix ?_ | refine s_ixi ?_)
        refine s_ld ?_; refine s_mv ?_; refine s_mv ?_; (first | refine s_ix ?_ | refine s_ixi ?_); refine s_ld ?_; (first | refine s_ix ?_ | refine s_ixi ?_); refine s_st ?_
        (first | refine s_ix ?_ | refine s_ixi ?_); refine s_st ?_; refine wpi_nil ?_
        repeat refine wp_seq ?_
        refine wp_ops ?_
        refine s_mv ?_; refine s_sb ?_; refine s_mv ?_; refine wpi_nil ?_
        refine ⟨rfl, by omega, _, ⟨hpz.trans hsw, by rw [show a + 1 + k - (m + 1) = j - 1 by omega]; exact hst⟩, ?_, by repeat (first | exact HLe.refl | apply HLe.cons | apply HLe.drop)⟩
        have e2 : (j : Int) - 1 = ((a + 1 + k - (m + 1) : Nat) : Int) := by omega
        rw [e2]; repeat (first | exact SubE.nil | refine SubE.cons rfl ?_)
      · repeat refine wp_seq ?_
        refine wp_exit ?_
        have hc : ¬ cmpL (zs.getD j default) (zs.getD (j - 1) default) < 0 := of_decide_eq_false h1
        refine done ?_ ?_ (.inr hc)
        · repeat (first | exact SubE.nil | refine SubE.cons rfl ?_)
        · repeat (first | exact HLe.nil | (apply HLe.take; focus (repeat (first | exact Take.head | apply Take.tail))))
    · have hja : ¬ a < j := by have := of_decide_eq_false h; omega
      first
        | refine s_gn ?_
        | refine s_gy ?_
          refine s_mv ?_
      first
        | refine s_gn ?_
        | refine s_gy ?_
          refine s_mv ?_
      first
        | refine s_gn ?_
        | refine s_gy ?_
          refine s_mv ?_
      first
        | refine s_gn ?_
        | refine s_gy ?_
          first | refine s_ix ?_ | refine s_ixi ?_
      first
        | refine s_gn ?_
        | refine s_gy ?_
          refine s_ld ?_
      first
        | refine s_gn ?_
        | refine s_gy ?_
          refine s_mv ?_
      first
        | refine s_gn ?_
        | refine s_gy ?_
          refine s_mv ?_
      first
        | refine s_gn ?_
        | refine s_gy ?_
          refine s_sb ?_
      first
        | refine s_gn ?_
        | refine s_gy ?_
          first | refine s_ix ?_ | refine s_ixi ?_
      first
        | refine s_gn ?_
        | refine s_gy ?_
          refine s_ld ?_
      first
        | refine s_gn ?_
        | refine s_gy ?_
          refine wpi_callV rfl rfl (ct_cmpL) (by repeat (first | exact HLe.splitNil | (apply HLe.splitCons; focus (repeat (first | exact Take.head | apply Take.tail))))) ?_
          rintro v32 G32 H32 le32 ⟨rfl, rfl, rfl⟩
          try simp only [List.nil_append, List.cons_append]
      first
        | refine s_gn ?_
        | refine s_gy ?_
          refine s_ib ?_
      (first | refine s_pt ?_ | refine s_pf ?_ | refine s_pb ?_); refine wpi_nil ?_
      repeat refine wp_seq ?_
      refine wp_cond rfl (fun h1 => ?_) (fun h1 => ?_)
      · cases h1
      · repeat refine wp_seq ?_
        refine wp_exit ?_
        refine done ?_ ?_ (.inl hja)
        · repeat (first | exact SubE.nil | refine SubE.cons rfl ?_)
        · repeat (first | exact HLe.nil | (apply HLe.take; focus (repeat (first | exact Take.head | apply Take.tail))))
  · repeat refine wp_seq ?_
    refine wp_exit ?_
    refine ⟨[], .nil, _, HLe.refl, rfl, ys, hp, ?_, rfl⟩
    intro p h1 h2
    refine hs p h1 ?_
    have := of_decide_eq_false ‹_›
    omega

