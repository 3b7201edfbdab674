/-
  A part of the proof: contracts of functions of the program, over the abstract machine.
-/
import Derived.Test.YtnhfopfmgodllaaF4
noncomputable section
namespace Go.Sl
open Go Go.Ab Cd
set_option linter.unusedVariables false
set_option linter.unusedSimpArgs false
set_option maxRecDepth 10000

/-- Nets of bounded size. -/
structure Net.small (n : Net) : Prop where
  places : n.places.length ≤ 40
  trans : n.trans.length ≤ 40
  arcs : ∀ t ∈ n.trans, t.ins.length ≤ 12 ∧ t.nots.length ≤ 12 ∧ t.outs.length ≤ 12
def linked (t : Trans) (p : Nat) : Bool := looks t p || (decide (t.delay = 0) && gives t p)
def pairsRow (n : Net) (t : Trans) (i k : Nat) : List (Nat × Nat) := ((List.range k).filter fun p => linked t p).map fun p => (p, n.places.length + i)
def pairsTo (n : Net) (k : Nat) : List (Nat × Nat) := (List.range k).flatMap fun i => pairsRow n (n.trans.getD i default) i n.places.length
def unitPairs (n : Net) : List (Nat × Nat) := pairsTo n n.trans.length
def units (n : Net) : List (List Nat) := groups (n.places.length + n.trans.length) (unitPairs n)
def pairF (p : Nat × Nat) : List AV := [intN p.1, intN p.2]
theorem pairF_len (l : List (Nat × Nat)) : (l.flatMap pairF).length = l.length * 2 := by
  induction l with
  | nil => rfl
  | cons a l ih => simp [pairF, ih]; omega
theorem pairsRow_succ (n : Net) (t : Trans) (i k : Nat) : pairsRow n t i (k + 1) = if linked t k then pairsRow n t i k ++ [(k, n.places.length + i)] else pairsRow n t i k := by
  simp only [pairsRow, List.range_succ, List.filter_append, List.filter_cons, List.filter_nil]
  cases linked t k <;> simp
theorem pairsTo_succ (n : Net) (k : Nat) : pairsTo n (k + 1) = pairsTo n k ++ pairsRow n (n.trans.getD k default) k n.places.length := by
  simp only [pairsTo, List.range_succ, List.flatMap_append, List.flatMap_cons, List.flatMap_nil, List.append_nil]
theorem pairsRow_len (n : Net) (t : Trans) (i k : Nat) : (pairsRow n t i k).length ≤ k := by
  unfold pairsRow; rw [List.length_map]; exact Nat.le_trans (List.length_filter_le _ _) (by simp)
theorem pairsTo_len (n : Net) : ∀ k, (pairsTo n k).length ≤ k * n.places.length
  | 0 => by simp [pairsTo]
  | k + 1 => by
    rw [pairsTo_succ, List.length_append, Nat.add_mul]
    have := pairsTo_len n k
    have := pairsRow_len n (n.trans.getD k default) k n.places.length
    omega
theorem unitPairs_in (n : Net) : ∀ p ∈ unitPairs n, p.1 < n.places.length ∧ n.places.length ≤ p.2 ∧ p.2 < n.places.length + n.trans.length := by
  intro p hp
  obtain ⟨i, hi, hp⟩ := List.mem_flatMap.1 hp
  obtain ⟨q, hq, rfl⟩ := List.mem_map.1 hp
  have := (List.mem_filter.1 hq).1
  simp at hi this
  simp only; omega

theorem ct_Units {G : GB} {nv : AV} {n : Net} (hN : netR (Gr G) nv n) (hs : n.small) :
    Ct prog n_ref14_Units [nv] G [] (fun v G' H' => SlL (Gr G') 1 (rowC (Gr G')) v (units n) ∧ H' = []) := by
  obtain ⟨pv, tv, rfl, hpl, htl⟩ := hN
  obtain ⟨hs1, hs2, hs3⟩ := hs
  have hpll := hpl.len
  have htll := htl.len
  refine ct_body (fn := f_ref14_Units) rfl rfl rfl ?_
  repeat refine wp_seq ?_
  refine wp_ops ?_
  refine s_bx fun b1 => ?_; refine s_mv ?_; refine wpi_nil ?_
  repeat refine wp_seq ?_
  refine wp_ops ?_
  refine s_mv ?_; refine wpi_nil ?_
  refine Wp.hle (HLe.nilS (es := 2)) ?_
  repeat refine wp_seq ?_
  refine wp_ops ?_
  refine s_mv ?_; refine wpi_nil ?_
  repeat refine wp_seq ?_
  refine wp_block ?_
  refine wp_loopX (α := AV) n.trans.length (fun i x => [(4, intN i), (3, x), (1, .ptr b1 0)]) (fun i x => [slA 2 x (pairsTo n i).length ((pairsTo n i).flatMap pairF), pt b1 (.cells none false [pv, tv])])
    (fun _ _ => True) .nils trivial (by repeat (first | exact SubE.nil | refine SubE.cons rfl ?_)) (by repeat (first | exact HLe.refl | apply HLe.cons | apply HLe.drop)) ?_
  rintro i x hil -
  repeat refine wp_seq ?_
  refine wp_ops ?_
  refine s_mv ?_; refine s_fA ?_; refine s_ld ?_; refine s_ln ?_; refine s_ib ?_; refine wpi_nil ?_
  repeat refine wp_seq ?_
  refine wp_cond rfl (fun h1 => ?_) (fun h1 => ?_)
  · have hlt : i < n.trans.length := by simpa using h1
    clear h1
    obtain ⟨b, o, cap, op, ro, c, y, htv, k2, k3, k4, k5, k6⟩ := htl.at hlt
    obtain ⟨a1, a2, a3⟩ := hs3 _ (List.getElem_mem hlt)
    have hgd : n.trans.getD i default = n.trans[i] := getD_lt hlt
    have hto := pairsTo_len n i
    have hto2 : i * n.places.length ≤ 40 * 40 := Nat.mul_le_mul (by omega) hs1
    generalize hT : n.trans[i] = T at *
    repeat refine wp_seq ?_
    refine wp_skip ?_
    refine wp_seq ?_
    repeat refine wp_seq ?_
    refine wp_block ?_
    repeat refine wp_seq ?_
    refine wp_ops ?_
    refine s_mv ?_; refine wpi_nil ?_
    repeat refine wp_seq ?_
    refine wp_block ?_
    refine wp_loopX (α := AV) n.places.length (fun p x => [(5, intN p), (4, intN i), (3, x), (1, .ptr b1 0)]) (fun p x => [slA 2 x (pairsTo n i ++ pairsRow n T i p).length ((pairsTo n i ++ pairsRow n T i p).flatMap pairF), pt b1 (.cells none false [pv, tv])])
      (fun _ _ => True) x trivial (by repeat (first | exact SubE.nil | refine SubE.cons rfl ?_)) (by rw [show pairsRow n T i 0 = [] from rfl, List.append_nil]; repeat (first | exact HLe.refl | apply HLe.cons | apply HLe.drop)) ?_
    rintro p x hpl2 -
    have hrl := pairsRow_len n T i p
    repeat refine wp_seq ?_
    refine wp_ops ?_
    refine s_mv ?_; refine s_fA ?_; refine s_ld ?_; refine s_ln ?_; refine s_ib ?_; refine wpi_nil ?_
    repeat refine wp_seq ?_
    refine wp_cond rfl (fun h1 => ?_) (fun h1 => ?_)
    · have hpt : p < n.places.length := by simpa using h1
      clear h1
      have k7 : Ab.part c (o + i * 6 + 1) none = some (.int .i64 T.delay) := by
        obtain ⟨_, _, _, rfl, _⟩ := k3
        exact k6 1 _ rfl
      subst htv
      have hfl := pairF_len (pairsTo n i ++ pairsRow n T i p)
      have hll : (pairsTo n i ++ pairsRow n T i p).length ≤ 2000 := by rw [List.length_append]; omega
      repeat refine wp_seq ?_
      refine wp_skip ?_
      refine wp_seq ?_
      repeat refine wp_seq ?_
      refine wp_block ?_
      refine wp_join [(44, .bool (linked T p)), (5, intN p), (4, intN i), (3, x), (1, .ptr b1 0)] [slA 2 x (pairsTo n i ++ pairsRow n T i p).length ((pairsTo n i ++ pairsRow n T i p).flatMap pairF), pt b1 (.cells none false [pv, .slc b o n.trans.length cap])] ?_ ?_
      · refine wp_ops ?_
        refine s_fA ?_; refine s_ld ?_; refine s_mv ?_; (first | refine s_ix ?_ | refine s_ixi ?_); refine s_ld ?_; refine s_mv ?_
        refine wpi_callF rfl (ct_Looks k3 (by omega) (by omega)) (by repeat (first | exact HLe.splitNil | (apply HLe.splitCons; focus (repeat (first | exact Take.head | apply Take.tail))))) ?_
        rintro v26 G26 H26 le26 ⟨rfl, rfl, rfl⟩
        try simp only [List.nil_append, List.cons_append]
        refine s_mv ?_
        refine wpi_case 27 rfl (fun h => ?_) (fun h => ?_)
        · first
            | refine s_gn ?_
            | refine s_gy ?_
              refine s_fA ?_
          first
            | refine s_gn ?_
            | refine s_gy ?_
              refine s_ld ?_
          first
            | refine s_gn ?_
            | refine s_gy ?_
              refine s_mv ?_
          first
            | refine s_gn ?_
            | refine s_gy ?_
              first | refine s_ix ?_ | refine s_ixi ?_
          first
            | refine s_gn ?_
            | refine s_gy ?_
              refine s_fA ?_
          first
            | refine s_gn ?_
            | refine s_gy ?_
              refine s_ld ?_
          first
            | refine s_gn ?_
            | refine s_gy ?_
              refine s_ib ?_
          first
            | refine s_gn ?_
            | refine s_gy ?_
              refine s_mv ?_
          first
            | refine s_gn ?_
            | refine s_gy ?_
              refine s_fA ?_
          first
            | refine s_gn ?_
            | refine s_gy ?_
              refine s_ld ?_
          first
            | refine s_gn ?_
            | refine s_gy ?_
              refine s_mv ?_
          first
            | refine s_gn ?_
            | refine s_gy ?_
              first | refine s_ix ?_ | refine s_ixi ?_
          first
            | refine s_gn ?_
            | refine s_gy ?_
              refine s_ld ?_
          first
            | refine s_gn ?_
            | refine s_gy ?_
              refine s_mv ?_
          first
            | refine s_gn ?_
            | refine s_gy ?_
              refine wpi_callF rfl (ct_Gives k3 (by omega)) (by repeat (first | exact HLe.splitNil | (apply HLe.splitCons; focus (repeat (first | exact Take.head | apply Take.tail))))) ?_
              rintro v42 G42 H42 le42 ⟨rfl, rfl, rfl⟩
              try simp only [List.nil_append, List.cons_append]
          first
            | refine s_gn ?_
            | refine s_gy ?_
              first | refine s_pt ?_ | refine s_pf ?_ | refine s_pb ?_
          (first | refine s_pt ?_ | refine s_pf ?_ | refine s_pb ?_); refine wpi_nil ?_
          refine ⟨rfl, ?_, by repeat (first | exact HLe.nil | (apply HLe.take; focus (repeat (first | exact Take.head | apply Take.tail))))⟩
          have hL : linked T p = true := by simp [linked, h]
          rw [hL]; repeat (first | exact SubE.nil | refine SubE.cons rfl ?_)
        · first
            | refine s_gn ?_
            | refine s_gy ?_
              refine s_fA ?_
          first
            | refine s_gn ?_
            | refine s_gy ?_
              refine s_ld ?_
          first
            | refine s_gn ?_
            | refine s_gy ?_
              refine s_mv ?_
          first
            | refine s_gn ?_
            | refine s_gy ?_
              first | refine s_ix ?_ | refine s_ixi ?_
          first
            | refine s_gn ?_
            | refine s_gy ?_
              refine s_fA ?_
          first
            | refine s_gn ?_
            | refine s_gy ?_
              refine s_ld ?_
          first
            | refine s_gn ?_
            | refine s_gy ?_
              refine s_ib ?_
          first
            | refine s_gn ?_
            | refine s_gy ?_
              refine s_mv ?_
          refine wpi_case 35 rfl (fun h2 => ?_) (fun h2 => ?_)
          · first
              | refine s_gn ?_
              | refine s_gy ?_
                refine s_fA ?_
            first
              | refine s_gn ?_
              | refine s_gy ?_
                refine s_ld ?_
            first
              | refine s_gn ?_
              | refine s_gy ?_
                refine s_mv ?_
            first
              | refine s_gn ?_
              | refine s_gy ?_
                first | refine s_ix ?_ | refine s_ixi ?_
            first
              | refine s_gn ?_
              | refine s_gy ?_
                refine s_ld ?_
            first
              | refine s_gn ?_
              | refine s_gy ?_
                refine s_mv ?_
            first
              | refine s_gn ?_
              | refine s_gy ?_
                refine wpi_callF rfl (ct_Gives k3 (by omega)) (by repeat (first | exact HLe.splitNil | (apply HLe.splitCons; focus (repeat (first | exact Take.head | apply Take.tail))))) ?_
                rintro v42 G42 H42 le42 ⟨rfl, rfl, rfl⟩
                try simp only [List.nil_append, List.cons_append]
            first
              | refine s_gn ?_
              | refine s_gy ?_
                first | refine s_pt ?_ | refine s_pf ?_ | refine s_pb ?_
            (first | refine s_pt ?_ | refine s_pf ?_ | refine s_pb ?_); refine wpi_nil ?_
            refine ⟨rfl, ?_, by repeat (first | exact HLe.nil | (apply HLe.take; focus (repeat (first | exact Take.head | apply Take.tail))))⟩
            have hd : T.delay = 0 := by simpa using h2
            have hL : linked T p = gives T p := by simp [linked, h, hd]
            rw [hL]; repeat (first | exact SubE.nil | refine SubE.cons rfl ?_)
          · first
              | refine s_gn ?_
              | refine s_gy ?_
                refine s_fA ?_
            first
              | refine s_gn ?_
              | refine s_gy ?_
                refine s_ld ?_
            first
              | refine s_gn ?_
              | refine s_gy ?_
                refine s_mv ?_
            first
              | refine s_gn ?_
              | refine s_gy ?_
                first | refine s_ix ?_ | refine s_ixi ?_
            first
              | refine s_gn ?_
              | refine s_gy ?_
                refine s_ld ?_
            first
              | refine s_gn ?_
              | refine s_gy ?_
                refine s_mv ?_
            first
              | refine s_gn ?_
              | refine s_gy ?_
                refine wpi_callF rfl (ct_Gives k3 (by omega)) (by repeat (first | exact HLe.splitNil | (apply HLe.splitCons; focus (repeat (first | exact Take.head | apply Take.tail))))) ?_
                rintro v42 G42 H42 le42 ⟨rfl, rfl, rfl⟩
                try simp only [List.nil_append, List.cons_append]
            first
              | refine s_gn ?_
              | refine s_gy ?_
                first | refine s_pt ?_ | refine s_pf ?_ | refine s_pb ?_
            (first | refine s_pt ?_ | refine s_pf ?_ | refine s_pb ?_); refine wpi_nil ?_
            refine ⟨rfl, ?_, by repeat (first | exact HLe.nil | (apply HLe.take; focus (repeat (first | exact Take.head | apply Take.tail))))⟩
            have hd : ¬ T.delay = 0 := by simpa using h2
            have hL : linked T p = false := by simp [linked, h, hd]
            rw [hL]; repeat (first | exact SubE.nil | refine SubE.cons rfl ?_)
      repeat refine wp_seq ?_
      refine wp_cond rfl (fun h1 => ?_) (fun h1 => ?_)
      · repeat refine wp_seq ?_
        refine wp_ops ?_
        refine s_mv ?_; refine s_mv ?_; refine s_fA ?_; refine s_ld ?_; refine s_ln ?_; refine s_mv ?_; refine s_ad ?_; refine s_bu ?_; refine s_bs fun b53 => ?_
        refine s_ap fun v54 f54 => ?_; refine s_mv ?_; refine wpi_nil ?_
        repeat refine wp_seq ?_
        refine wp_ops ?_
        refine s_mv ?_; refine s_ad ?_; refine s_mv ?_; refine wpi_nil ?_
        refine ⟨rfl, hpt, v54, trivial, by repeat (first | exact SubE.nil | refine SubE.cons rfl ?_), ?_⟩
        have e1 : (pairsTo n i ++ pairsRow n T i (p + 1)).length = (pairsTo n i ++ pairsRow n T i p).length + 1 := by rw [pairsRow_succ, if_pos h1]; simp; omega
        have e2 : (pairsTo n i ++ pairsRow n T i (p + 1)).flatMap pairF = (pairsTo n i ++ pairsRow n T i p).flatMap pairF ++ [intN p, .int .i64 ((n.places.length : Int) + i)] := by
          rw [pairsRow_succ, if_pos h1, ← List.append_assoc, List.flatMap_append]; rfl
        rw [e1, e2]; repeat (first | exact HLe.nil | (apply HLe.take; focus (repeat (first | exact Take.head | apply Take.tail))))
      · repeat refine wp_seq ?_
        refine wp_skip ?_
        repeat refine wp_seq ?_
        refine wp_ops ?_
        refine s_mv ?_; refine s_ad ?_; refine s_mv ?_; refine wpi_nil ?_
        refine ⟨rfl, hpt, x, trivial, by repeat (first | exact SubE.nil | refine SubE.cons rfl ?_), ?_⟩
        rw [pairsRow_succ, if_neg (by rw [h1]; nofun)]; repeat (first | exact HLe.nil | (apply HLe.take; focus (repeat (first | exact Take.head | apply Take.tail))))
    · have hp : p = n.places.length := by
        have : ¬ (p : Int) < n.places.length := of_decide_eq_false h1
        omega
      subst hp
      repeat refine wp_seq ?_
      refine wp_exit ?_
      repeat refine wp_seq ?_
      refine wp_ops ?_
      refine s_mv ?_; refine s_ad ?_; refine s_mv ?_; refine wpi_nil ?_
      refine ⟨rfl, hlt, x, trivial, by repeat (first | exact SubE.nil | refine SubE.cons rfl ?_), ?_⟩
      rw [pairsTo_succ, hgd]; repeat (first | exact HLe.nil | (apply HLe.take; focus (repeat (first | exact Take.head | apply Take.tail))))
  · have hi : i = n.trans.length := by
      have : ¬ (i : Int) < n.trans.length := of_decide_eq_false h1
      omega
    subst hi
    have hto := pairsTo_len n n.trans.length
    have hto2 : n.trans.length * n.places.length ≤ 40 * 40 := Nat.mul_le_mul (by omega) hs1
    repeat refine wp_seq ?_
    refine wp_exit ?_
    refine Wp.freezeS (by repeat (first | exact Take.head | apply Take.tail)) ?_
    intro G2 le2 hp2
    repeat refine wp_seq ?_
    refine wp_ops ?_
    refine s_fA ?_; refine s_ld ?_; refine s_ln ?_; refine s_fA ?_; refine s_ld ?_; refine s_ln ?_; refine s_ad ?_; refine s_mv ?_
    refine wpi_callF rfl (ct_Groups (n := n.places.length + n.trans.length) (SlL.of (f := pairF) hp2 (fun _ _ => rfl) (fun _ => rfl)) (fun p h => ⟨Nat.lt_of_lt_of_le (unitPairs_in n p h).1 (Nat.le_add_right _ _), (unitPairs_in n p h).2.2⟩) (by omega) (by omega)) (by repeat (first | exact HLe.splitNil | (apply HLe.splitCons; focus (repeat (first | exact Take.head | apply Take.tail))))) ?_
    rintro v63 G63 H63 le63 ⟨hg, rfl⟩
    try simp only [List.nil_append, List.cons_append]
    refine s_mv ?_; refine wpi_nil ?_
    repeat refine wp_seq ?_
    refine wp_ret ?_
    exact ⟨_, .tmp rfl .nil, [], by repeat (first | exact HLe.nil | (apply HLe.take; focus (repeat (first | exact Take.head | apply Take.tail)))), hg, rfl⟩

