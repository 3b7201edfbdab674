/-
  A part of the proof: contracts of functions of the program, over the abstract machine.
-/
import Derived.Test.YtnhfopfmgodllaaF3
noncomputable section
namespace Go.Sl
open Go Go.Ab Cd
set_option linter.unusedVariables false
set_option linter.unusedSimpArgs false
set_option maxRecDepth 10000

@[reducible] def intN (n : Nat) : AV := .int .i64 (n : Int)
def natC (n : Nat) (c : List AV) : Prop := c = [intN n]
def pairC (p : Nat × Nat) (c : List AV) : Prop := c = [intN p.1, intN p.2]
def rowC (D : RD) (l : List Nat) (c : List AV) : Prop := ∃ v, c = [v] ∧ SlL D 1 natC v l
def relax (l : List Nat) (p : Nat × Nat) : List Nat := if l.getD p.1 0 < l.getD p.2 0 then l.set p.2 (l.getD p.1 0) else l.set p.1 (l.getD p.2 0)
def relaxes (ps : List (Nat × Nat)) (l : List Nat) : List Nat := ps.foldl relax l
def labels (n : Nat) (ps : List (Nat × Nat)) (k : Nat) : List Nat := Nat.repeat (relaxes ps) k (List.range n)
def members (n : Nat) (l : List Nat) (i k : Nat) : List Nat := (List.range k).filter fun x => decide (l.getD x 0 = i)
def groupsTo (n : Nat) (l : List Nat) (k : Nat) : List (List Nat) := ((List.range k).map fun i => members n l i n).filter fun g => decide (g ≠ [])
def groups (n : Nat) (ps : List (Nat × Nat)) : List (List Nat) := groupsTo n (labels n ps n) n
theorem relax_len (l : List Nat) (p : Nat × Nat) : (relax l p).length = l.length := by unfold relax; split <;> simp
theorem relaxes_len (ps : List (Nat × Nat)) : ∀ l : List Nat, (relaxes ps l).length = l.length := by
  induction ps with
  | nil => intro l; rfl
  | cons p ps ih => intro l; show (relaxes ps (relax l p)).length = _; rw [ih, relax_len]
theorem labels_len (n : Nat) (ps : List (Nat × Nat)) : ∀ k, (labels n ps k).length = n
  | 0 => by simp [labels, Nat.repeat]
  | k + 1 => by show (relaxes ps (labels n ps k)).length = n; rw [relaxes_len, labels_len n ps k]
theorem relaxes_take (ps : List (Nat × Nat)) (l : List Nat) {j : Nat} (hj : j < ps.length) : relaxes (ps.take (j + 1)) l = relax (relaxes (ps.take j) l) ps[j] := by
  unfold relaxes; rw [List.take_succ_eq_append_getElem hj, List.foldl_append]; rfl
theorem members_succ (n : Nat) (l : List Nat) (i k : Nat) : members n l i (k + 1) = if l.getD k 0 = i then members n l i k ++ [k] else members n l i k := by
  simp only [members, List.range_succ, List.filter_append, List.filter_cons, List.filter_nil]
  by_cases h : l.getD k 0 = i
  · simp only [h, decide_true, if_true]
  · simp only [h, decide_false, if_false, Bool.false_eq_true, List.append_nil]
theorem groupsTo_succ (n : Nat) (l : List Nat) (k : Nat) : groupsTo n l (k + 1) = if members n l k n ≠ [] then groupsTo n l k ++ [members n l k n] else groupsTo n l k := by
  simp only [groupsTo, List.range_succ, List.map_append, List.filter_append]
  split <;> rename_i h <;> simp [h]
theorem members_len (n : Nat) (l : List Nat) (i k : Nat) : (members n l i k).length ≤ k := by
  unfold members; exact Nat.le_trans (List.length_filter_le _ _) (by simp)
theorem groupsTo_len (n : Nat) (l : List Nat) (k : Nat) : (groupsTo n l k).length ≤ k := by
  unfold groupsTo; exact Nat.le_trans (List.length_filter_le _ _) (by simp)
def natF (n : Nat) : List AV := [intN n]
theorem range_set (n i : Nat) (h : i < n) : (List.range i ++ List.replicate (n - i) 0).set i i = List.range (i + 1) ++ List.replicate (n - (i + 1)) 0 := by
  rw [List.set_append_right _ _ (by simp), List.length_range, Nat.sub_self, List.range_succ, List.append_assoc]
  congr 1
  obtain ⟨m, hm⟩ : ∃ m, n - i = m + 1 := ⟨n - i - 1, by omega⟩
  rw [hm, List.replicate_succ, List.set_cons_zero, show n - (i + 1) = m by omega]; rfl
theorem natF_len (l : List Nat) : (l.flatMap natF).length = l.length := by induction l with
  | nil => rfl
  | cons a l ih => simp [natF, ih]

theorem ct_Groups {G : GB} {pv : AV} {n : Nat} {ps : List (Nat × Nat)} (hp : SlL (Gr G) 2 pairC pv ps) (hin : ∀ p ∈ ps, p.1 < n ∧ p.2 < n) (hn : n < 1000000) (hps : ps.length < 1000000) :
    Ct prog n_ref01_Groups [intN n, pv] G [] (fun v G' H' => SlL (Gr G') 1 (rowC (Gr G')) v (groups n ps) ∧ H' = []) := by
  refine ct_body (fn := f_ref01_Groups) rfl rfl rfl ?_
  repeat refine wp_seq ?_
  refine wp_ops ?_
  refine s_mv ?_; refine wpi_nil ?_
  repeat refine wp_seq ?_
  refine wp_ops ?_
  refine s_mv ?_; refine s_mk fun b16 => ?_; refine s_mv ?_; refine wpi_nil ?_
  repeat refine wp_seq ?_
  refine wp_ops ?_
  refine s_mv ?_; refine wpi_nil ?_
  have hr0 : repl [AV.int .i64 0] n = (List.replicate n 0).map intN := repl_one (f := intN) (x := 0) n
  rw [hr0]
  repeat refine wp_seq ?_
  refine wp_block ?_
  refine wp_loopX (α := Unit) n (fun i _ => [(6, intN i), (5, .slc b16 0 n (some n)), (0, intN n), (1, pv)]) (fun i _ => [pt b16 (.cells none false ((List.range i ++ List.replicate (n - i) 0).map intN))])
    (fun i _ => True) () trivial (by repeat (first | exact SubE.nil | refine SubE.cons rfl ?_)) (by repeat (first | exact HLe.refl | apply HLe.cons | apply HLe.drop)) ?_
  rintro i - hil -
  repeat refine wp_seq ?_
  refine wp_ops ?_
  refine s_mv ?_; refine s_mv ?_; refine s_ib ?_; refine wpi_nil ?_
  repeat refine wp_seq ?_
  refine wp_cond rfl (fun h1 => ?_) (fun h1 => ?_)
  · have hlt : i < n := by simpa using h1
    have hs : splice ((List.range i ++ List.replicate (n - i) 0).map intN) (0 + i * 1) [AV.int .i64 (i : Int)] = some ((List.range (i + 1) ++ List.replicate (n - (i + 1)) 0).map intN) := by
      rw [← range_set n i hlt]; exact splice_set1 (f := intN) (by simp; omega)
    repeat refine wp_seq ?_
    refine wp_skip ?_
    repeat refine wp_seq ?_
    refine wp_block ?_
    repeat refine wp_seq ?_
    refine wp_ops ?_
    refine s_mv ?_; refine s_mv ?_; refine s_mv ?_; (first | refine s_ix ?_ | refine s_ixi ?_); refine s_s1 ?_; refine wpi_nil ?_
    repeat refine wp_seq ?_
    refine wp_ops ?_
    refine s_mv ?_; refine s_ad ?_; refine s_mv ?_; refine wpi_nil ?_
    exact ⟨rfl, hlt, (), trivial, by repeat (first | exact SubE.nil | refine SubE.cons rfl ?_), by repeat (first | exact HLe.refl | apply HLe.cons | apply HLe.drop)⟩
  · have hi : i = n := by have : ¬ (i : Int) < n := of_decide_eq_false h1; omega
    subst hi
    clear h1 hil
    rw [Nat.sub_self, List.replicate_zero, List.append_nil]
    repeat refine wp_seq ?_
    refine wp_exit ?_
    repeat refine wp_seq ?_
    refine wp_ops ?_
    refine s_mv ?_; refine wpi_nil ?_
    repeat refine wp_seq ?_
    refine wp_block ?_
    refine wp_loopX (α := Unit) i (fun k _ => [(7, intN k), (5, .slc b16 0 i (some i)), (0, intN i), (1, pv)]) (fun k _ => [pt b16 (.cells none false ((labels i ps k).map intN))])
      (fun k _ => True) () trivial (by repeat (first | exact SubE.nil | refine SubE.cons rfl ?_)) (by repeat (first | exact HLe.refl | apply HLe.cons | apply HLe.drop)) ?_
    rintro k - hkl -
    repeat refine wp_seq ?_
    refine wp_ops ?_
    refine s_mv ?_; refine s_mv ?_; refine s_ib ?_; refine wpi_nil ?_
    repeat refine wp_seq ?_
    refine wp_cond rfl (fun h1 => ?_) (fun h1 => ?_)
    · have hlt : k < i := by simpa using h1
      clear h1
      repeat refine wp_seq ?_
      refine wp_skip ?_
      refine wp_seq ?_
      repeat refine wp_seq ?_
      refine wp_block ?_
      repeat refine wp_seq ?_
      refine wp_ops ?_
      refine s_mv ?_; refine wpi_nil ?_
      repeat refine wp_seq ?_
      refine wp_block ?_
      refine wp_loopX (α := Unit) ps.length (fun j _ => [(8, intN j), (7, intN k), (5, .slc b16 0 i (some i)), (0, intN i), (1, pv)]) (fun j _ => [pt b16 (.cells none false ((relaxes (ps.take j) (labels i ps k)).map intN))])
        (fun j _ => True) () trivial (by repeat (first | exact SubE.nil | refine SubE.cons rfl ?_)) (by repeat (first | exact HLe.refl | apply HLe.cons | apply HLe.drop)) ?_
      rintro j - hjl -
      repeat refine wp_seq ?_
      refine wp_ops ?_
      refine s_mv ?_; refine s_mv ?_; refine s_ln ?_; refine s_ib ?_; refine wpi_nil ?_
      repeat refine wp_seq ?_
      refine wp_cond rfl (fun h1 => ?_) (fun h1 => ?_)
      · have hjt : j < ps.length := by simpa using h1
        obtain ⟨b, o, cap, op, ro, c, x, rfl, k2, k3, k4, k5, k6⟩ := hp.at hjt
        obtain rfl : x = _ := k3
        obtain ⟨ha, hb⟩ := hin _ (List.getElem_mem hjt)
        have hll : (relaxes (ps.take j) (labels i ps k)).length = i := by rw [relaxes_len, labels_len]
        have hsu := relaxes_take ps (labels i ps k) hjt
        generalize hP : ps[j] = P at *
        generalize relaxes (ps.take j) (labels i ps k) = L at *
        have k7 : Ab.part c (o + j * 2 + (0 : Int).toNat * 1) none = some (.int .i64 (P.1 : Int)) := k6 0 _ rfl
        have k8 : Ab.part c (o + j * 2 + (1 : Int).toNat * 1) none = some (.int .i64 (P.2 : Int)) := k6 1 _ rfl
        clear h1 k6 k5 k4
        repeat refine wp_seq ?_
        refine wp_skip ?_
        refine wp_seq ?_
        repeat refine wp_seq ?_
        refine wp_block ?_
        repeat refine wp_seq ?_
        refine wp_ops ?_
        refine s_mv ?_; refine s_mv ?_; (first | refine s_ix ?_ | refine s_ixi ?_); refine s_xA ?_; refine s_ld ?_; refine s_mv ?_; refine wpi_nil ?_
        repeat refine wp_seq ?_
        refine wp_ops ?_
        refine s_mv ?_; refine s_mv ?_; (first | refine s_ix ?_ | refine s_ixi ?_); refine s_xA ?_; refine s_ld ?_; refine s_mv ?_; refine wpi_nil ?_
        refine wp_seq ?_
        refine wp_seq ?_
        refine wp_ops ?_
        refine s_mv ?_; refine s_ib ?_; refine s_mv ?_
        refine wpi_case 49 rfl (fun h => absurd (of_decide_eq_true h) (by omega)) (fun _ => ?_)
        first
          | refine s_gn ?_
          | refine s_gy ?_
            refine s_mv ?_
        first
          | refine s_gn ?_
          | refine s_gy ?_
            refine s_mv ?_
        first
          | refine s_gn ?_
          | refine s_gy ?_
            refine s_ib ?_
        (first | refine s_pt ?_ | refine s_pf ?_ | refine s_pb ?_); refine s_mv ?_
        refine wpi_case 54 rfl (fun h => absurd (of_decide_eq_true h) (by omega)) (fun _ => ?_)
        first
          | refine s_gn ?_
          | refine s_gy ?_
            refine s_mv ?_
        first
          | refine s_gn ?_
          | refine s_gy ?_
            refine s_ib ?_
        (first | refine s_pt ?_ | refine s_pf ?_ | refine s_pb ?_); refine s_mv ?_
        refine wpi_case 58 rfl (fun h => absurd (of_decide_eq_true h) (by omega)) (fun _ => ?_)
        first
          | refine s_gn ?_
          | refine s_gy ?_
            refine s_mv ?_
        first
          | refine s_gn ?_
          | refine s_gy ?_
            refine s_mv ?_
        first
          | refine s_gn ?_
          | refine s_gy ?_
            refine s_ib ?_
        (first | refine s_pt ?_ | refine s_pf ?_ | refine s_pb ?_); refine wpi_nil ?_
        repeat refine wp_seq ?_
        refine wp_cond rfl (fun h1 => ?_) (fun h1 => ?_)
        · exact absurd (of_decide_eq_true h1) (by omega)
        · have g1 : Ab.part (L.map intN) (0 + P.1 * 1) none = some (.int .i64 (L.getD P.1 0 : Nat)) := by rw [part_map1 (by omega), getD_lt (by omega)]
          have g2 : Ab.part (L.map intN) (0 + P.2 * 1) none = some (.int .i64 (L.getD P.2 0 : Nat)) := by rw [part_map1 (by omega), getD_lt (by omega)]
          have hs1 : splice (L.map intN) (0 + P.1 * 1) [.int .i64 (L.getD P.2 0 : Nat)] = some ((L.set P.1 (L.getD P.2 0)).map intN) := splice_set1 (f := intN) (by omega)
          have hs2 : splice (L.map intN) (0 + P.2 * 1) [.int .i64 (L.getD P.1 0 : Nat)] = some ((L.set P.2 (L.getD P.1 0)).map intN) := splice_set1 (f := intN) (by omega)
          repeat refine wp_seq ?_
          refine wp_skip ?_
          repeat refine wp_seq ?_
          refine wp_ops ?_
          refine s_mv ?_; refine s_mv ?_; (first | refine s_ix ?_ | refine s_ixi ?_); refine s_ld ?_; refine s_mv ?_; refine s_mv ?_; (first | refine s_ix ?_ | refine s_ixi ?_); refine s_ld ?_
          refine s_ib ?_; refine wpi_nil ?_
          repeat refine wp_seq ?_
          refine wp_cond rfl (fun h1 => ?_) (fun h1 => ?_)
          · have hlt2 : L.getD P.1 0 < L.getD P.2 0 := by have := of_decide_eq_true h1; omega
            repeat refine wp_seq ?_
            refine wp_ops ?_
            refine s_mv ?_; refine s_mv ?_; refine s_mv ?_; refine s_mv ?_; (first | refine s_ix ?_ | refine s_ixi ?_); refine s_ld ?_; (first | refine s_ix ?_ | refine s_ixi ?_); refine s_s1 ?_
            refine wpi_nil ?_
            repeat refine wp_seq ?_
            refine wp_ops ?_
            refine s_mv ?_; refine s_ad ?_; refine s_mv ?_; refine wpi_nil ?_
            refine ⟨rfl, hjt, (), trivial, by repeat (first | exact SubE.nil | refine SubE.cons rfl ?_), ?_⟩
            rw [hsu, relax, if_pos hlt2]; repeat (first | exact HLe.refl | apply HLe.cons | apply HLe.drop)
          · have hlt2 : ¬ L.getD P.1 0 < L.getD P.2 0 := by have := of_decide_eq_false h1; omega
            repeat refine wp_seq ?_
            refine wp_ops ?_
            refine s_mv ?_; refine s_mv ?_; refine s_mv ?_; refine s_mv ?_; (first | refine s_ix ?_ | refine s_ixi ?_); refine s_ld ?_; (first | refine s_ix ?_ | refine s_ixi ?_); refine s_s1 ?_
            refine wpi_nil ?_
            repeat refine wp_seq ?_
            refine wp_ops ?_
            refine s_mv ?_; refine s_ad ?_; refine s_mv ?_; refine wpi_nil ?_
            refine ⟨rfl, hjt, (), trivial, by repeat (first | exact SubE.nil | refine SubE.cons rfl ?_), ?_⟩
            rw [hsu, relax, if_neg hlt2]; repeat (first | exact HLe.refl | apply HLe.cons | apply HLe.drop)
      · have hj : j = ps.length := by have : ¬ (j : Int) < ps.length := of_decide_eq_false h1; omega
        subst hj
        repeat refine wp_seq ?_
        refine wp_exit ?_
        repeat refine wp_seq ?_
        refine wp_ops ?_
        refine s_mv ?_; refine s_ad ?_; refine s_mv ?_; refine wpi_nil ?_
        refine ⟨rfl, hlt, (), trivial, by repeat (first | exact SubE.nil | refine SubE.cons rfl ?_), ?_⟩
        rw [List.take_length]; repeat (first | exact HLe.refl | apply HLe.cons | apply HLe.drop)
    · have hk : k = i := by have : ¬ (k : Int) < i := of_decide_eq_false h1; omega
      subst hk
      clear h1 hkl
      have hll := labels_len k ps k
      rw [groups]
      generalize labels k ps k = L at *
      repeat refine wp_seq ?_
      refine wp_exit ?_
      repeat refine wp_seq ?_
      refine wp_ops ?_
      refine s_mv ?_; refine wpi_nil ?_
      refine Wp.hle (HLe.nilS (es := 1)) ?_
      repeat refine wp_seq ?_
      refine wp_ops ?_
      refine s_mv ?_; refine wpi_nil ?_
      repeat refine wp_seq ?_
      refine wp_block ?_
      refine wp_loopG (α := AV × List (List AV)) k (fun i x => [(12, intN i), (11, x.1), (5, .slc b16 0 k (some k)), (0, intN k)]) (fun i x => [slA 1 x.1 x.2.length x.2.flatten, pt b16 (.cells none false (L.map intN))])
        (fun i x G' => All2 (rowC (Gr G')) (groupsTo k L i) x.2 ∧ ∀ c ∈ x.2, c.length = 1) (.nils, []) ⟨.nil, by simp⟩ (by repeat (first | exact SubE.nil | refine SubE.cons rfl ?_)) (by repeat (first | exact HLe.refl | apply HLe.cons | apply HLe.drop)) ?_
      rintro i ⟨ov, cc⟩ G2 le2 hil ⟨hcc, hc1⟩
      repeat refine wp_seq ?_
      refine wp_ops ?_
      refine s_mv ?_; refine s_mv ?_; refine s_ib ?_; refine wpi_nil ?_
      repeat refine wp_seq ?_
      refine wp_cond rfl (fun h1 => ?_) (fun h1 => ?_)
      · have hlt : i < k := by simpa using h1
        clear h1
        have hgl := groupsTo_len k L i
        have hcl : (groupsTo k L i).length = cc.length := hcc.length
        repeat refine wp_seq ?_
        refine wp_skip ?_
        refine wp_seq ?_
        repeat refine wp_seq ?_
        refine wp_block ?_
        repeat refine wp_seq ?_
        refine wp_ops ?_
        refine s_mv ?_; refine wpi_nil ?_
        refine Wp.hle (HLe.nilS (es := 1)) ?_
        repeat refine wp_seq ?_
        refine wp_ops ?_
        refine s_mv ?_; refine wpi_nil ?_
        repeat refine wp_seq ?_
        refine wp_block ?_
        refine wp_loopX (α := AV) k (fun j lv => [(14, intN j), (13, lv), (12, intN i), (11, ov), (5, .slc b16 0 k (some k)), (0, intN k)])
          (fun j lv => [slA 1 lv (members k L i j).length ((members k L i j).flatMap natF), slA 1 ov cc.length cc.flatten, pt b16 (.cells none false (L.map intN))]) (fun _ _ => True) .nils trivial (by repeat (first | exact SubE.nil | refine SubE.cons rfl ?_)) (by repeat (first | exact HLe.refl | apply HLe.cons | apply HLe.drop)) ?_
        rintro j lv hjl -
        have hml := members_len k L i j
        repeat refine wp_seq ?_
        refine wp_ops ?_
        refine s_mv ?_; refine s_mv ?_; refine s_ib ?_; refine wpi_nil ?_
        repeat refine wp_seq ?_
        refine wp_cond rfl (fun h1 => ?_) (fun h1 => ?_)
        · have hjt : j < k := by simpa using h1
          clear h1
          have g1 : Ab.part (L.map intN) (0 + j * 1) none = some (.int .i64 (L.getD j 0 : Nat)) := by rw [part_map1 (by omega), getD_lt (by omega)]
          repeat refine wp_seq ?_
          refine wp_skip ?_
          refine wp_seq ?_
          repeat refine wp_seq ?_
          refine wp_block ?_
          repeat refine wp_seq ?_
          refine wp_ops ?_
          refine s_mv ?_; refine s_mv ?_; (first | refine s_ix ?_ | refine s_ixi ?_); refine s_ld ?_; refine s_mv ?_; refine s_ib ?_; refine wpi_nil ?_
          repeat refine wp_seq ?_
          refine wp_cond rfl (fun h1 => ?_) (fun h1 => ?_)
          · have hE : L.getD j 0 = i := by have : ((L.getD j 0 : Nat) : Int) = i := by simpa using h1
                                           omega
            have hfl := natF_len (members k L i j)
            repeat refine wp_seq ?_
            refine wp_ops ?_
            refine s_mv ?_; refine s_mv ?_; refine s_bs fun b104 => ?_; refine s_ap fun v105 f105 => ?_; refine s_mv ?_; refine wpi_nil ?_
            repeat refine wp_seq ?_
            refine wp_ops ?_
            refine s_mv ?_; refine s_ad ?_; refine s_mv ?_; refine wpi_nil ?_
            refine ⟨rfl, hjt, v105, trivial, by repeat (first | exact SubE.nil | refine SubE.cons rfl ?_), ?_⟩
            rw [members_succ, if_pos hE, List.flatMap_append, List.length_append]; repeat (first | exact HLe.nil | (apply HLe.take; focus (repeat (first | exact Take.head | apply Take.tail))))
          · have hE : ¬ L.getD j 0 = i := by have : ¬ ((L.getD j 0 : Nat) : Int) = i := by simpa using h1
                                             omega
            repeat refine wp_seq ?_
            refine wp_skip ?_
            repeat refine wp_seq ?_
            refine wp_ops ?_
            refine s_mv ?_; refine s_ad ?_; refine s_mv ?_; refine wpi_nil ?_
            refine ⟨rfl, hjt, lv, trivial, by repeat (first | exact SubE.nil | refine SubE.cons rfl ?_), ?_⟩
            rw [members_succ, if_neg hE]; repeat (first | exact HLe.nil | (apply HLe.take; focus (repeat (first | exact Take.head | apply Take.tail))))
        · have hj : j = k := by have : ¬ (j : Int) < k := of_decide_eq_false h1; omega
          subst hj
          repeat refine wp_seq ?_
          refine wp_exit ?_
          refine Wp.fact (fun S F p => slA_form .head p) fun hfm => ?_
          repeat refine wp_seq ?_
          refine wp_ops ?_
          refine s_mv ?_; refine s_ln ?_; refine s_ib ?_; refine wpi_nil ?_
          repeat refine wp_seq ?_
          refine wp_cond rfl (fun h1 => ?_) (fun h1 => ?_)
          · have hne : members j L i j ≠ [] := by intro he; rw [he] at h1; simp at h1
            refine Wp.freezeS (by repeat (first | exact Take.head | apply Take.tail)) ?_
            intro G3 le3 hm3
            refine Wp.fact (fun S F p => slA_form .head p) fun hfo => ?_
            have hfl := hfo.clen
            have hfill := fill_one (z := .nils) hfm.one
            repeat refine wp_seq ?_
            refine wp_ops ?_
            refine s_mv ?_; refine s_mv ?_; refine s_bs fun b111 => ?_; refine s_ap fun v112 f112 => ?_; refine s_mv ?_; refine wpi_nil ?_
            repeat refine wp_seq ?_
            refine wp_ops ?_
            refine s_mv ?_; refine s_ad ?_; refine s_mv ?_; refine wpi_nil ?_
            have hrow : rowC (Gr G3) (members j L i j) [lv] := ⟨lv, rfl, SlL.of (f := natF) hm3 (fun _ _ => rfl) (fun _ => rfl)⟩
            refine ⟨hlt, (v112, cc ++ [[lv]]), ⟨?_, ?_⟩, ?_, ?_⟩
            · rw [groupsTo_succ, if_pos hne]
              exact (hcc.mono fun _ _ ⟨v, h1, h2⟩ => ⟨v, h1, h2.mono (Gr.le le3) fun _ _ h => h⟩).append (.cons hrow .nil)
            · intro c hc
              rcases List.mem_append.1 hc with h | h
              · exact hc1 _ h
              · simp at h; subst h; rfl
            · repeat (first | exact SubE.nil | refine SubE.cons rfl ?_)
            · simp only [List.flatten_append, List.length_append]; repeat (first | exact HLe.nil | (apply HLe.take; focus (repeat (first | exact Take.head | apply Take.tail))))
          · have hne : ¬ members j L i j ≠ [] := by
              intro he
              have : 0 < (members j L i j).length := List.length_pos_iff.2 he
              have := of_decide_eq_false h1
              omega
            repeat refine wp_seq ?_
            refine wp_skip ?_
            repeat refine wp_seq ?_
            refine wp_ops ?_
            refine s_mv ?_; refine s_ad ?_; refine s_mv ?_; refine wpi_nil ?_
            refine ⟨hlt, (ov, cc), ⟨?_, hc1⟩, by repeat (first | exact SubE.nil | refine SubE.cons rfl ?_), ?_⟩
            · rw [groupsTo_succ, if_neg hne]; exact hcc
            · repeat (first | exact HLe.nil | (apply HLe.take; focus (repeat (first | exact Take.head | apply Take.tail))))
      · have hi : i = k := by have : ¬ (i : Int) < k := of_decide_eq_false h1; omega
        subst hi
        repeat refine wp_seq ?_
        refine wp_exit ?_
        refine Wp.freezeS (by repeat (first | exact Take.head | apply Take.tail)) ?_
        intro G3 le3 hm3
        repeat refine wp_seq ?_
        refine wp_ops ?_
        refine s_mv ?_; refine s_mv ?_; refine wpi_nil ?_
        repeat refine wp_seq ?_
        refine wp_ret ?_
        refine ⟨_, .tmp rfl .nil, [], (by repeat (first | exact HLe.nil | (apply HLe.take; focus (repeat (first | exact Take.head | apply Take.tail))))), ?_, rfl⟩
        exact ⟨cc, hcc.mono fun _ _ ⟨v, h1, h2⟩ => ⟨v, h1, h2.mono (Gr.le le3) fun _ _ h => h⟩, hc1, by rw [hcc.length]; exact hm3⟩

