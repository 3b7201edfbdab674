/-
  A part of the proof: contracts of functions of the program, over the abstract machine.
-/
import Derived.Test.YtnhfopfmgodllaaL4
noncomputable section
namespace Go.Sl
open Go Go.Ab Cd
set_option linter.unusedVariables false
set_option linter.unusedSimpArgs false
set_option maxRecDepth 10000

def rawLane (p : Part) (i : Nat) (t : Trans) (a : Arc) : Lane := ⟨ati p.trans i, ati p.places a.place, t.delay⟩
def rawRow (p : Part) (i : Nat) (t : Trans) (k : Nat) : List Lane := ((t.outs.take k).map (rawLane p i t)).filter fun l => decide (l.src ≠ l.dst)
def rawTo (n : Net) (p : Part) (k : Nat) : List Lane := (List.range k).flatMap fun i => rawRow p i (n.trans.getD i default) (n.trans.getD i default).outs.length
def rawLanes (n : Net) (p : Part) : List Lane := rawTo n p n.trans.length
def LanesR (raw L : List Lane) : Prop := ∃ ys, ys.Perm raw ∧ Sorted 0 ys.length ys ∧ L = compactL ys
theorem rawRow_succ {p : Part} {i : Nat} {t : Trans} {k : Nat} (h : k < t.outs.length) : rawRow p i t (k + 1) = if (rawLane p i t t.outs[k]).src ≠ (rawLane p i t t.outs[k]).dst then rawRow p i t k ++ [rawLane p i t t.outs[k]] else rawRow p i t k := by
  unfold rawRow
  rw [List.take_succ_eq_append_getElem h, List.map_append, List.filter_append]
  simp only [List.map_cons, List.map_nil, List.filter_cons, List.filter_nil]
  by_cases e : (rawLane p i t t.outs[k]).src = (rawLane p i t t.outs[k]).dst
  · simp [e]
  · simp [e]
theorem rawTo_succ (n : Net) (p : Part) (k : Nat) : rawTo n p (k + 1) = rawTo n p k ++ rawRow p k (n.trans.getD k default) (n.trans.getD k default).outs.length := by
  simp only [rawTo, List.range_succ, List.flatMap_append, List.flatMap_cons, List.flatMap_nil, List.append_nil]
theorem rawRow_le (p : Part) (i : Nat) (t : Trans) (k : Nat) : (rawRow p i t k).length ≤ k := by
  unfold rawRow; exact Nat.le_trans (List.length_filter_le _ _) (by simp; omega)
theorem rawTo_le (n : Net) (hs : n.small) (p : Part) : ∀ k, k ≤ n.trans.length → (rawTo n p k).length ≤ k * 12
  | 0, _ => by simp [rawTo]
  | k + 1, hk => by
    rw [rawTo_succ, List.length_append]
    have h1 := rawTo_le n hs p k (by omega)
    have h2 := rawRow_le p k (n.trans.getD k default) (n.trans.getD k default).outs.length
    have h3 := (hs.arcs (n.trans.getD k default) (by rw [getD_lt (by omega)]; exact List.getElem_mem _)).2.2
    omega
theorem partCheck_zero {n : Net} {p : Part} (h : partCheck n p = 0) : p.fits n ∧ p.places.all (inR p.n) = true ∧ p.trans.all (inR p.n) = true ∧ transHome p n n.trans.length := by
  unfold partCheck at h
  split at h
  · cases h
  · rename_i h1
    split at h
    · cases h
    · rename_i h2
      split at h
      · rename_i h3
        exact ⟨Classical.not_not.1 h1, (Classical.not_not.1 h2).1, (Classical.not_not.1 h2).2, h3⟩
      · cases h

theorem ct_Compact0 {G : GB} : Ct prog n_slices_CompactFunc__lane_Lane_lane_Lane [.nils, .fn n_lane_Of_2 []] G [] (fun v G' H' => v = .nils ∧ G = G' ∧ H' = []) := by
  refine ct_body (fn := f_slices_CompactFunc__lane_Lane_lane_Lane) rfl rfl rfl ?_
  repeat refine wp_seq ?_
  refine wp_ops ?_
  refine s_mv ?_; refine wpi_nil ?_
  repeat refine wp_seq ?_
  refine wp_ops ?_
  refine s_mv ?_; refine s_ln ?_; refine s_ib ?_; refine wpi_nil ?_
  repeat refine wp_seq ?_
  refine wp_cond rfl (fun h1 => ?_) (fun h1 => ?_)
  · repeat refine wp_seq ?_
    refine wp_ops ?_
    refine s_mv ?_; refine s_mv ?_; refine wpi_nil ?_
    repeat refine wp_seq ?_
    refine wp_ret ?_
    exact ⟨_, .tmp rfl .nil, [], HLe.nil, rfl, rfl, rfl⟩
  · cases h1
theorem HLe.openS {G : GB} {H : List As} {es b n : Nat} {cs : List AV} : HLe G (slA es (.slc b 0 n none) n cs :: H) (pt b (.cells (some es) false cs) :: H) := fun S F p => by
  rcases hp_slA p with ⟨h, _⟩ | ⟨b', h, _, q⟩
  · cases h
  · cases h; exact q

theorem ct_LaneOf {G : GB} {nv pv : AV} {n : Net} {p : Part} (hN : netR (Gr G) nv n) (hO : n.ok) (hP : partR (Gr G) pv p) (hpl : p.places.length < 1000) (hpt : p.trans.length < 1000) (hm : partCheck n p = 0 → (rawLanes n p).length ≤ mostLanes) :
    Ct prog n_lane_Of [nv, pv] G [] (fun v G' H' => H' = [] ∧ ∃ L, SlL (Gr G') 3 laneC v L ∧ if partCheck n p = 0 then LanesR (rawLanes n p) L else L = []) := by
  obtain ⟨nv1, nv2, rfl, hn1, hn2⟩ := hN
  obtain ⟨pv1, pv2, rfl, hp1, hp2⟩ := hP
  have hN : netR (Gr G) (.agg [nv1, nv2]) n := ⟨nv1, nv2, rfl, hn1, hn2⟩
  have hP : partR (Gr G) (.agg [.int .i64 p.n, pv1, pv2]) p := ⟨pv1, pv2, rfl, hp1, hp2⟩
  have hs1 := hO.places
  have hs2 := hO.trans
  refine ct_body (fn := f_lane_Of) rfl rfl rfl ?_
  repeat refine wp_seq ?_
  refine wp_ops ?_
  refine s_bx fun b2 => ?_; refine s_bx fun b3 => ?_; refine s_mv ?_; refine wpi_nil ?_
  repeat refine wp_seq ?_
  refine wp_ops ?_
  refine s_ld ?_; refine s_ld ?_
  refine wpi_callF rfl (ct_PCheck hN hO hP hpl hpt) (by repeat (first | exact HLe.splitNil | (apply HLe.splitCons; focus (repeat (first | exact Take.head | apply Take.tail))))) ?_
  rintro v13 G13 H13 le13 ⟨rfl, rfl⟩
  try simp only [List.nil_append, List.cons_append]
  refine s_ib ?_; refine wpi_nil ?_
  repeat refine wp_seq ?_
  refine wp_cond rfl (fun h1 => ?_) (fun h1 => ?_)
  · have hne := ne_of h1
    repeat refine wp_seq ?_
    refine wp_ops ?_
    refine s_mv ?_; refine wpi_nil ?_
    repeat refine wp_seq ?_
    refine wp_ret ?_
    refine ⟨_, .tmp rfl .nil, [], HLe.nil, rfl, [], ⟨[], .nil, by simp, ⟨by simp, .inl ⟨.inl rfl, rfl⟩⟩⟩, ?_⟩
    rw [if_neg hne]
  have h0 : partCheck n p = 0 := eq_of h1
  have hm0 := hm h0
  clear h1 hm
  obtain ⟨⟨e1, e2, e3, e4⟩, _, _, _⟩ := partCheck_zero h0
  have hn2' := hn2.mono (Gr.le le13) (fun _ _ h => transC.mono (Gr.le le13) h)
  have hp1' := hp1.mono (Gr.le le13) (fun _ _ h => h)
  have hp2' := hp2.mono (Gr.le le13) (fun _ _ h => h)
  have hn2l := hn2'.len
  clear hN hP hn1 hn2 hp1 hp2
  repeat refine wp_seq ?_
  refine wp_skip ?_
  repeat refine wp_seq ?_
  refine wp_ops ?_
  refine s_mv ?_; refine wpi_nil ?_
  refine Wp.hle (HLe.nilS (es := 3)) ?_
  repeat refine wp_seq ?_
  refine wp_ops ?_
  refine s_fA ?_; refine s_ld ?_; refine s_ln ?_; refine s_mv ?_; refine wpi_nil ?_
  repeat refine wp_seq ?_
  refine wp_block ?_
  refine wp_loopX (α := AV) n.trans.length (fun i x => [(18, intN i), (17, intN n.trans.length), (16, nv2), (5, x), (3, .ptr b3 0)]) (fun i x => [slA 3 x (rawTo n p i).length ((rawTo n p i).flatMap laneF), pt b3 (.cells none false [.int .i64 p.n, pv1, pv2])])
    (fun _ _ => True) .nils trivial (by repeat (first | exact SubE.nil | refine SubE.cons rfl ?_)) (by repeat (first | exact HLe.nil | (apply HLe.take; focus (repeat (first | exact Take.head | apply Take.tail))))) ?_
  rintro i x hil -
  repeat refine wp_seq ?_
  refine wp_ops ?_
  refine s_ib ?_; refine wpi_nil ?_
  repeat refine wp_seq ?_
  refine wp_cond rfl (fun h1 => ?_) (fun h1 => ?_)
  · have hlt : i < n.trans.length := by simpa using h1
    clear h1
    obtain ⟨b, o, cap, op', ro, c, y, rfl, k2, k3, k4, k5, k6⟩ := hn2'.at hlt
    have hai := hO.arcsIn _ (List.getElem_mem hlt)
    obtain ⟨a1, a2, a3⟩ := hO.arcs _ (List.getElem_mem hlt)
    have hgd : n.trans.getD i default = n.trans[i] := getD_lt hlt
    have hip : i < p.trans.length := by omega
    obtain ⟨qb, qo, qcap, qop, qro, qc, rfl, q2, q5⟩ := Ints.at hp2' hip
    have hati : ati p.trans i = p.trans[i] := by unfold ati; rw [Int.toNat_natCast, getD_lt hip]
    have hrt := rawTo_le n hO.tosmall p i hil
    generalize n.trans[i] = T at *
    obtain ⟨iv, nv, ov, rfl, hi, hn, ho⟩ := k3
    have hol := ho.len
    repeat refine wp_seq ?_
    refine wp_skip ?_
    refine wp_seq ?_
    repeat refine wp_seq ?_
    refine wp_block ?_
    repeat refine wp_seq ?_
    refine wp_ops ?_
    refine s_mv ?_; (first | refine s_ix ?_ | refine s_ixi ?_); refine s_ld ?_; refine wpi_alloc fun b7 => ?_; refine s_mv ?_; refine s_st ?_; refine wpi_nil ?_
    repeat refine wp_seq ?_
    refine wp_ops ?_
    refine s_fA ?_; refine s_ld ?_; refine s_ln ?_; refine s_mv ?_; refine wpi_nil ?_
    repeat refine wp_seq ?_
    refine wp_block ?_
    refine wp_loopX (α := AV) T.outs.length (fun j x => [(26, intN j), (25, intN T.outs.length), (24, ov), (6, intN i), (7, .ptr b7 0), (18, intN i), (17, intN n.trans.length), (16, .slc b o n.trans.length cap), (5, x), (3, .ptr b3 0)])
      (fun j x => [slA 3 x (rawTo n p i ++ rawRow p i T j).length ((rawTo n p i ++ rawRow p i T j).flatMap laneF), pt b7 (.cells none false [.str T.name, .int .i64 T.delay, .int .i64 T.prio, iv, nv, ov]), pt b3 (.cells none false [.int .i64 p.n, pv1, .slc qb qo p.trans.length qcap])])
      (fun _ _ => True) x trivial (by repeat (first | exact SubE.nil | refine SubE.cons rfl ?_)) (by rw [show rawRow p i T 0 = [] from rfl, List.append_nil]; repeat (first | exact HLe.nil | (apply HLe.take; focus (repeat (first | exact Take.head | apply Take.tail))))) ?_
    rintro j x hjl -
    repeat refine wp_seq ?_
    refine wp_ops ?_
    refine s_ib ?_; refine wpi_nil ?_
    repeat refine wp_seq ?_
    refine wp_cond rfl (fun h1 => ?_) (fun h1 => ?_)
    · have hjt : j < T.outs.length := by simpa using h1
      clear h1
      obtain ⟨lb, lo, lcap, lop, lro, lc, rfl, m2, m5⟩ := Arcs.at' ho hjt
      have hin : 0 ≤ T.outs[j].place ∧ T.outs[j].place < n.places.length := by
        have := hai T.outs[j] (by simp)
        omega
      have hpx : (T.outs[j].place).toNat < p.places.length := by omega
      obtain ⟨xb, xo, xcap, xop, xro, xc, rfl, x2, x5⟩ := Ints.at hp1' hpx
      have hax : ati p.places T.outs[j].place = p.places[(T.outs[j].place).toNat] := by unfold ati; rw [getD_lt hpx]
      have hlane : rawLane p i T T.outs[j] = ⟨p.trans[i], p.places[(T.outs[j].place).toNat], T.delay⟩ := by unfold rawLane; rw [hati, hax]
      have hrs := rawRow_succ (p := p) (i := i) hjt
      have hrl := rawRow_le p i T j
      have hll : (rawTo n p i ++ rawRow p i T j).length ≤ 2000 := by rw [List.length_append]; omega
      rw [hlane] at hrs
      repeat refine wp_seq ?_
      refine wp_skip ?_
      refine wp_seq ?_
      repeat refine wp_seq ?_
      refine wp_block ?_
      repeat refine wp_seq ?_
      refine wp_ops ?_
      (first | refine s_ix ?_ | refine s_ixi ?_); refine s_ld ?_; refine wpi_alloc fun b9 => ?_; refine s_st ?_; refine wpi_nil ?_
      repeat refine wp_seq ?_
      refine wp_ops ?_
      refine s_fA ?_; refine s_ld ?_; refine s_mv ?_; (first | refine s_ix ?_ | refine s_ixi ?_); refine s_ld ?_; refine s_fA ?_; refine s_ld ?_; refine s_fA ?_; refine s_ld ?_
      (first | refine s_ix ?_ | refine s_ixi ?_); refine s_ld ?_; refine s_fA ?_; refine s_ld ?_; refine s_bu ?_; refine wpi_alloc fun b10 => ?_; refine s_st ?_; refine wpi_nil ?_
      have hfl := flat_len laneF_len (rawTo n p i ++ rawRow p i T j)
      repeat refine wp_seq ?_
      refine wp_ops ?_
      refine s_fA ?_; refine s_ld ?_; refine s_fA ?_; refine s_ld ?_; refine s_ib ?_; refine wpi_nil ?_
      repeat refine wp_seq ?_
      refine wp_cond rfl (fun h1 => ?_) (fun h1 => ?_)
      · rw [if_pos (ne_of h1)] at hrs
        repeat refine wp_seq ?_
        refine wp_ops ?_
        refine s_mv ?_; refine s_ld ?_; refine s_bs fun b51 => ?_; refine s_ap fun v52 f52 => ?_; refine s_mv ?_; refine wpi_nil ?_
        repeat refine wp_seq ?_
        refine wp_ops ?_
        refine s_ad ?_; refine s_mv ?_; refine wpi_nil ?_
        refine ⟨rfl, hjt, v52, trivial, by repeat (first | exact SubE.nil | refine SubE.cons rfl ?_), ?_⟩
        have g1 : (rawTo n p i ++ rawRow p i T (j + 1)).length = (rawTo n p i ++ rawRow p i T j).length + 1 := by rw [hrs]; simp; omega
        have g2 : (rawTo n p i ++ rawRow p i T (j + 1)).flatMap laneF = (rawTo n p i ++ rawRow p i T j).flatMap laneF ++ laneF ⟨p.trans[i], p.places[(T.outs[j].place).toNat], T.delay⟩ := by
          rw [hrs, ← List.append_assoc, List.flatMap_append]; simp
        rw [g1, g2]; repeat (first | exact HLe.nil | (apply HLe.take; focus (repeat (first | exact Take.head | apply Take.tail))))
      · rw [if_neg (not_not_intro (eq_of h1))] at hrs
        repeat refine wp_seq ?_
        refine wp_skip ?_
        repeat refine wp_seq ?_
        refine wp_ops ?_
        refine s_ad ?_; refine s_mv ?_; refine wpi_nil ?_
        refine ⟨rfl, hjt, x, trivial, by repeat (first | exact SubE.nil | refine SubE.cons rfl ?_), ?_⟩
        rw [hrs]; repeat (first | exact HLe.nil | (apply HLe.take; focus (repeat (first | exact Take.head | apply Take.tail))))
    · have hj : j = T.outs.length := by
        have : ¬ (j : Int) < T.outs.length := of_decide_eq_false h1
        omega
      subst hj
      repeat refine wp_seq ?_
      refine wp_exit ?_
      repeat refine wp_seq ?_
      refine wp_ops ?_
      refine s_ad ?_; refine s_mv ?_; refine wpi_nil ?_
      refine ⟨rfl, hlt, x, trivial, by repeat (first | exact SubE.nil | refine SubE.cons rfl ?_), ?_⟩
      rw [rawTo_succ, hgd]; repeat (first | exact HLe.nil | (apply HLe.take; focus (repeat (first | exact Take.head | apply Take.tail))))
  · have hi : i = n.trans.length := by
      have : ¬ (i : Int) < n.trans.length := of_decide_eq_false h1
      omega
    subst hi
    rw [show rawTo n p n.trans.length = rawLanes n p from rfl]
    generalize rawLanes n p = R at *
    repeat refine wp_seq ?_
    refine wp_exit ?_
    refine Wp.fact (fun S F p => slA_form .head p) fun hf => ?_
    rcases hf with ⟨rfl, hl0, hc0⟩ | ⟨blk, rfl, hcl⟩
    · have hR : R = [] := List.eq_nil_of_length_eq_zero hl0
      repeat refine wp_seq ?_
      refine wp_ops ?_
      refine s_mv ?_
      refine wpi_callF rfl (ct_SortFunc0) (by repeat (first | exact HLe.splitNil | (apply HLe.splitCons; focus (repeat (first | exact Take.head | apply Take.tail))))) ?_
      rintro v56 G56 H56 le56 ⟨rfl, rfl⟩
      try simp only [List.nil_append, List.cons_append]
      refine wpi_nil ?_
      repeat refine wp_seq ?_
      refine wp_ops ?_
      refine s_mv ?_
      refine wpi_callF rfl (ct_Compact0) (by repeat (first | exact HLe.splitNil | (apply HLe.splitCons; focus (repeat (first | exact Take.head | apply Take.tail))))) ?_
      rintro v58 G58 H58 le58 ⟨rfl, rfl, rfl⟩
      try simp only [List.nil_append, List.cons_append]
      refine s_mv ?_; refine wpi_nil ?_
      repeat refine wp_seq ?_
      refine wp_ret ?_
      refine ⟨_, .tmp rfl .nil, [], HLe.nil, rfl, [], ⟨[], .nil, by simp, ⟨by simp, .inl ⟨.inl rfl, rfl⟩⟩⟩, ?_⟩
      rw [if_pos h0]
      exact ⟨[], by rw [hR], fun p h1 h2 => by simp at h2, rfl⟩
    · refine Wp.hle HLe.openS ?_
      repeat refine wp_seq ?_
      refine wp_ops ?_
      refine s_mv ?_
      refine wpi_callF rfl (ct_SortFunc (n := R.length) rfl hm0) (by repeat (first | exact HLe.splitNil | (apply HLe.splitCons; focus (repeat (first | exact Take.head | apply Take.tail))))) ?_
      rintro v56 G56 H56 le56 ⟨rfl, ys, hp, hs, rfl⟩
      try simp only [List.nil_append, List.cons_append]
      refine wpi_nil ?_
      have hyl := hp.len
      repeat refine wp_seq ?_
      refine wp_ops ?_
      refine s_mv ?_
      refine wpi_callF rfl (ct_Compact (n := R.length) hyl.symm (by unfold mostLanes at hm0; omega)) (by repeat (first | exact HLe.splitNil | (apply HLe.splitCons; focus (repeat (first | exact Take.head | apply Take.tail))))) ?_
      rintro v58 G58 H58 le58 ⟨hr, rfl⟩
      try simp only [List.nil_append, List.cons_append]
      refine s_mv ?_; refine wpi_nil ?_
      repeat refine wp_seq ?_
      refine wp_ret ?_
      refine ⟨_, .tmp rfl .nil, [], HLe.nil, rfl, compactL ys, SlL.of hr (fun _ _ => rfl) (fun _ => rfl), ?_⟩
      rw [if_pos h0]
      exact ⟨ys, hp.perm, by rw [hyl]; exact hs, rfl⟩

