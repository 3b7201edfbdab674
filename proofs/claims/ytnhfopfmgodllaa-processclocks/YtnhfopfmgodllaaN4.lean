/-
  A part of the proof: contracts of functions of the program, over the abstract machine.
-/
import Derived.Test.YtnhfopfmgodllaaN3
noncomputable section
namespace Go.Sl
open Go Go.Ab Cd
set_option linter.unusedVariables false
set_option linter.unusedSimpArgs false
set_option maxRecDepth 10000

def onLane (l : Lane) (s d : Int) : Bool := (l.src == s) && (l.dst == d)
def tell1 (ins : List Lane) (ks : List Int) (s d t : Int) (i : Nat) : Int := if onLane (ins.getD i default) s d then minF true (ks.getD i 0) t else ks.getD i 0
def tellTo (ins : List Lane) (ks : List Int) (s d t : Int) (k : Nat) : List Int := (List.range k).map (tell1 ins ks s d t) ++ ks.drop k
def tell (ins : List Lane) (ks : List Int) (s d t : Int) : List Int := tellTo ins ks s d t ks.length
theorem tellTo_len (ins : List Lane) (ks : List Int) (s d t : Int) (k : Nat) (h : k ≤ ks.length) : (tellTo ins ks s d t k).length = ks.length := by simp [tellTo]; omega
theorem tellTo_succ (ins : List Lane) (ks : List Int) (s d t : Int) (k : Nat) (h : k < ks.length) : tellTo ins ks s d t (k + 1) = (tellTo ins ks s d t k).set k (tell1 ins ks s d t k) := by
  unfold tellTo
  rw [List.set_append_right _ _ (by simp), List.length_map, List.length_range, Nat.sub_self, List.range_succ, List.map_append, List.append_assoc]
  congr 1
  rw [List.drop_eq_getElem_cons h, List.set_cons_zero]; rfl
theorem tellTo_get (ins : List Lane) (ks : List Int) (s d t : Int) (k : Nat) (h : k < ks.length) : (tellTo ins ks s d t k).getD k 0 = ks.getD k 0 := by
  unfold tellTo
  simp only [List.getD_eq_getElem?_getD]
  rw [List.getElem?_append_right (by simp)]
  simp
theorem tellTo_set_same (ins : List Lane) (ks : List Int) (s d t : Int) (k : Nat) (h : k < ks.length) (hn : onLane (ins.getD k default) s d = false) : tellTo ins ks s d t (k + 1) = tellTo ins ks s d t k := by
  unfold tellTo
  rw [List.range_succ, List.map_append, List.append_assoc]
  congr 1
  rw [List.drop_eq_getElem_cons h]
  simp only [List.map_cons, List.map_nil, tell1, hn, Bool.false_eq_true, if_false, getD_lt h]; rfl
theorem intF_map (l : List Int) : (l.flatMap fun x => [intV x]) = l.map intV := flat_one l
theorem HLe.closeS {G : GB} {H : List As} {es b n : Nat} {cs : List AV} (h : cs.length = n * es) : HLe G (pt b (.cells (some es) false cs) :: H) (slA es (.slc b 0 n none) n cs :: H) := fun S F p => hp_slA_pt h p
theorem slA_ints {G : GB} {H H2 : List As} {v : AV} {ks : List Int} (t : Take (slA 1 v ks.length (ks.map intV)) H H2) (f : SlForm 1 v ks.length (ks.map intV)) : Ints (Reads G H) v ks := by
  refine SlL.of (f := fun x => [intV x]) ?_ (fun _ _ => rfl) (fun _ => rfl)
  rw [flat_one]; exact slA_SlR t f

theorem ct_ComeT {G : GB} {b : Nat} {id pn : Int} {xv pv1 pv2 iv ov cv sv : AV} {h : Int} {bg dn : Bool} {ins : List Lane} {ks : List Int} {s d t pl mn : Int} (hl : ks.length = ins.length) (hmn : mn ≤ 0) (hN : ins.length < 1000) :
    Ct prog n_process_Process_Come [.ptr b 0, .agg [.int .i64 s, .int .i64 d, .int .i64 t, .int .i64 pl, .int .i64 mn]] G [slA 3 iv ins.length (ins.flatMap laneF), slA 1 cv ks.length (ks.map intV), pt b (.cells none false (procC id pn xv pv1 pv2 iv ov cv sv h bg dn))]
      (fun v G' H' => G = G' ∧ H' = [slA 3 iv ins.length (ins.flatMap laneF), slA 1 cv ks.length ((tell ins ks s d t).map intV), pt b (.cells none false (procC id pn xv pv1 pv2 iv ov cv sv h bg dn))]) := by
  refine ct_body (fn := f_process_Process_Come) rfl rfl rfl ?_
  repeat refine wp_seq ?_
  refine wp_ops ?_
  refine s_bx fun b3 => ?_; refine wpi_nil ?_
  repeat refine wp_seq ?_
  refine wp_ops ?_
  refine s_mv ?_; refine s_eq ?_; refine wpi_nil ?_
  repeat refine wp_seq ?_
  refine wp_cond rfl (fun h1 => ?_) (fun h1 => ?_)
  · cases h1
  repeat refine wp_seq ?_
  refine wp_skip ?_
  repeat refine wp_seq ?_
  refine wp_ops ?_
  refine s_fA ?_; refine s_fA ?_; refine s_ld ?_; refine s_ib ?_; refine wpi_nil ?_
  repeat refine wp_seq ?_
  refine wp_cond rfl (fun h1 => ?_) (fun h1 => ?_)
  · exact absurd (of_decide_eq_true h1) (by omega)
  repeat refine wp_seq ?_
  refine wp_skip ?_
  refine Wp.fact (fun S F p => slA_form (by repeat (first | exact Take.head | apply Take.tail)) p) (q := SlForm 3 iv ins.length (ins.flatMap laneF)) fun hfi => ?_
  refine Wp.fact (fun S F p => slA_form (by repeat (first | exact Take.head | apply Take.tail)) p) (q := SlForm 1 cv ks.length (ks.map intV)) fun hfk => ?_
  have lfi := hfi.len
  repeat refine wp_seq ?_
  refine wp_ops ?_
  refine s_mv ?_; (first | refine s_nc ?_ | refine s_ncf ?_ | refine s_nci ?_); refine s_fA ?_; refine s_ld ?_; refine s_ln ?_; refine s_mv ?_; refine wpi_nil ?_
  rcases hfk with ⟨rfl, hk0, _⟩ | ⟨kb, rfl, hkl⟩
  · have hins0 : ins.length = 0 := by omega
    have hks0 : ks = [] := List.eq_nil_of_length_eq_zero hk0
    repeat refine wp_seq ?_
    refine wp_block ?_
    refine wp_loopX (α := Unit) 0 (fun i _ => [(24, intN 0), (23, intN ins.length)]) (fun _ _ => [slA 3 iv ins.length (ins.flatMap laneF), slA 1 .nils ks.length (ks.map intV), pt b (.cells none false (procC id pn xv pv1 pv2 iv ov .nils sv h bg dn))]) (fun _ _ => True) () trivial (by repeat (first | exact SubE.nil | refine SubE.cons rfl ?_)) (by repeat (first | exact HLe.nil | (apply HLe.take; focus (repeat (first | exact Take.head | apply Take.tail))))) ?_
    rintro i - - -
    repeat refine wp_seq ?_
    refine wp_ops ?_
    refine s_ib ?_; refine wpi_nil ?_
    repeat refine wp_seq ?_
    refine wp_cond rfl (fun h1 => ?_) (fun h1 => ?_)
    · exact absurd (of_decide_eq_true h1) (by omega)
    repeat refine wp_seq ?_
    refine wp_exit ?_
    refine ⟨[], .nil, _, HLe.refl, rfl, ?_⟩
    subst hks0; rfl
  refine Wp.hle ((HLe.take (P := slA 1 (.slc kb 0 ks.length none) ks.length (ks.map intV)) (by repeat (first | exact Take.head | apply Take.tail)) HLe.refl).trans HLe.openS) ?_
  repeat refine wp_seq ?_
  refine wp_block ?_
  refine wp_loopX (α := Unit) ins.length (fun i _ => [(24, intN i), (23, intN ins.length), (22, iv), (0, .ptr b 0), (3, .ptr b3 0)]) (fun i _ => [pt kb (.cells (some 1) false ((tellTo ins ks s d t i).map intV)), slA 3 iv ins.length (ins.flatMap laneF), pt b (.cells none false (procC id pn xv pv1 pv2 iv ov (.slc kb 0 ks.length none) sv h bg dn)), pt b3 (.cells none false [.int .i64 s, .int .i64 d, .int .i64 t, .int .i64 pl, .int .i64 mn])])
    (fun _ _ => True) () trivial (by repeat (first | exact SubE.nil | refine SubE.cons rfl ?_)) (by repeat (first | exact HLe.nil | (apply HLe.take; focus (repeat (first | exact Take.head | apply Take.tail))))) ?_
  rintro i - hil -
  repeat refine wp_seq ?_
  refine wp_ops ?_
  refine s_ib ?_; refine wpi_nil ?_
  repeat refine wp_seq ?_
  refine wp_cond rfl (fun h1 => ?_) (fun h1 => ?_)
  · have hlt : i < ins.length := by simpa using h1
    clear h1
    have hrd : SlL (Reads G [pt kb (.cells (some 1) false ((tellTo ins ks s d t i).map intV)), slA 3 iv ins.length (ins.flatMap laneF), pt b (.cells none false (procC id pn xv pv1 pv2 iv ov (.slc kb 0 ks.length none) sv h bg dn)), pt b3 (.cells none false [.int .i64 s, .int .i64 d, .int .i64 t, .int .i64 pl, .int .i64 mn])]) 3 laneC iv ins :=
      SlL.of (slA_SlR (by repeat (first | exact Take.head | apply Take.tail)) hfi) (fun _ _ => rfl) (fun _ => rfl)
    obtain ⟨lb, lo, lcap, lop, lro, lc, y, rfl, k2, k3, k4, k5, k6⟩ := hrd.at hlt
    obtain rfl : y = _ := k3
    have hik : i < ks.length := by omega
    have hg := tellTo_get ins ks s d t i hik
    have hsu := tellTo_succ ins ks s d t i hik
    have hsa := tellTo_set_same ins ks s d t i hik
    have hll := tellTo_len ins ks s d t i (by omega)
    have hgl : ins.getD i default = ins[i] := getD_lt hlt
    unfold tell1 at hsu
    rw [hgl] at hsu hsa
    generalize ins[i] = A at *
    repeat refine wp_seq ?_
    refine wp_skip ?_
    refine wp_seq ?_
    repeat refine wp_seq ?_
    refine wp_block ?_
    repeat refine wp_seq ?_
    refine wp_ops ?_
    refine s_mv ?_; (first | refine s_ix ?_ | refine s_ixi ?_); refine s_ld ?_; refine wpi_alloc fun b5 => ?_; refine s_mv ?_; refine s_st ?_; refine wpi_nil ?_
    refine wp_seq ?_
    refine wp_ops ?_
    refine s_fA ?_; refine s_ld ?_; refine s_fA ?_; refine s_ld ?_; refine s_ib ?_; refine s_mv ?_
    refine wpi_case 34 rfl (fun hc => ?_) (fun hc => ?_)
    · first
        | refine s_gn ?_
        | refine s_gy ?_
          refine s_fA ?_
      first
        | refine s_gn ?_
        | refine s_gy ?_
          refine s_ld ?_
      first
        | refine s_gn ?_
        | refine s_gy ?_
          refine s_fA ?_
      first
        | refine s_gn ?_
        | refine s_gy ?_
          refine s_ld ?_
      first
        | refine s_gn ?_
        | refine s_gy ?_
          refine s_ib ?_
      (first | refine s_pt ?_ | refine s_pf ?_ | refine s_pb ?_); refine wpi_nil ?_
      repeat refine wp_seq ?_
      refine wp_cond rfl (fun h1 => ?_) (fun h1 => ?_)
      · have hon : onLane A s d = true := by rw [onLane, hc, Bool.true_and]; exact h1
        rw [if_pos hon] at hsu
        have g1 : Ab.part ((tellTo ins ks s d t i).map intV) (0 + i * 1) none = some (.int .i64 (ks.getD i 0)) := by rw [part_map1 (f := intV) (by omega), ← hg, getD_lt (by omega)]
        have hmx : minI true (.int .i64 (ks.getD i 0)) [.int .i64 t] = some (.int .i64 (minF true (ks.getD i 0) t)) := rfl
        have hst : splice ((tellTo ins ks s d t i).map intV) (0 + i * 1) [.int .i64 (minF true (ks.getD i 0) t)] = some ((tellTo ins ks s d t (i + 1)).map intV) := by rw [hsu]; exact splice_set1 (f := intV) (by omega)
        repeat refine wp_seq ?_
        refine wp_ops ?_
        refine s_mv ?_; (first | refine s_nc ?_ | refine s_ncf ?_ | refine s_nci ?_); refine s_fA ?_; refine s_ld ?_; refine s_mv ?_; refine s_mv ?_
        (first | refine s_nc ?_ | refine s_ncf ?_ | refine s_nci ?_); refine s_fA ?_; refine s_ld ?_; refine s_mv ?_; (first | refine s_ix ?_ | refine s_ixi ?_); refine s_ld ?_
        refine s_fA ?_; refine s_fA ?_; refine s_ld ?_; refine s_mx ?_; (first | refine s_ix ?_ | refine s_ixi ?_); refine s_s1 ?_; refine wpi_nil ?_
        repeat refine wp_seq ?_
        refine wp_ops ?_
        refine s_ad ?_; refine s_mv ?_; refine wpi_nil ?_
        exact ⟨rfl, hlt, (), trivial, by repeat (first | exact SubE.nil | refine SubE.cons rfl ?_), by repeat (first | exact HLe.nil | (apply HLe.take; focus (repeat (first | exact Take.head | apply Take.tail))))⟩
      · have hon : onLane A s d = false := by rw [onLane, hc, Bool.true_and]; exact h1
        repeat refine wp_seq ?_
        refine wp_skip ?_
        repeat refine wp_seq ?_
        refine wp_ops ?_
        refine s_ad ?_; refine s_mv ?_; refine wpi_nil ?_
        refine ⟨rfl, hlt, (), trivial, by repeat (first | exact SubE.nil | refine SubE.cons rfl ?_), ?_⟩
        rw [hsa hon]; repeat (first | exact HLe.nil | (apply HLe.take; focus (repeat (first | exact Take.head | apply Take.tail))))
    · have hon : onLane A s d = false := by rw [onLane, hc]; rfl
      first
        | refine s_gn ?_
        | refine s_gy ?_
          refine s_fA ?_
      first
        | refine s_gn ?_
        | refine s_gy ?_
          refine s_ld ?_
      first
        | refine s_gn ?_
        | refine s_gy ?_
          refine s_fA ?_
      first
        | refine s_gn ?_
        | refine s_gy ?_
          refine s_ld ?_
      first
        | refine s_gn ?_
        | refine s_gy ?_
          refine s_ib ?_
      (first | refine s_pt ?_ | refine s_pf ?_ | refine s_pb ?_); refine wpi_nil ?_
      repeat refine wp_seq ?_
      refine wp_cond rfl (fun h1 => ?_) (fun h1 => ?_)
      · cases h1
      · repeat refine wp_seq ?_
        refine wp_skip ?_
        repeat refine wp_seq ?_
        refine wp_ops ?_
        refine s_ad ?_; refine s_mv ?_; refine wpi_nil ?_
        refine ⟨rfl, hlt, (), trivial, by repeat (first | exact SubE.nil | refine SubE.cons rfl ?_), ?_⟩
        rw [hsa hon]; repeat (first | exact HLe.nil | (apply HLe.take; focus (repeat (first | exact Take.head | apply Take.tail))))
  · have hi : i = ks.length := by
      have : ¬ (i : Int) < ins.length := of_decide_eq_false h1
      omega
    subst hi
    repeat refine wp_seq ?_
    refine wp_exit ?_
    refine ⟨[], .nil, [slA 3 iv ins.length (ins.flatMap laneF), slA 1 (.slc kb 0 ks.length none) ks.length ((tell ins ks s d t).map intV), pt b (.cells none false (procC id pn xv pv1 pv2 iv ov (.slc kb 0 ks.length none) sv h bg dn))], ?_, rfl, rfl⟩
    refine HLe.trans (HLe.closeS (n := ks.length) (by rw [List.length_map, tellTo_len _ _ _ _ _ _ (Nat.le_refl _), Nat.mul_one])) ?_
    rw [show tellTo ins ks s d t ks.length = tell ins ks s d t from rfl]
    repeat (first | exact HLe.nil | (apply HLe.take; focus (repeat (first | exact Take.head | apply Take.tail))))

def minL (ks : List Int) (x : Int) : Int := ks.foldl (fun t c => minF false t c) x
def never : Int := 2305843009213693952
theorem minL_take (ks : List Int) (x : Int) {i : Nat} (h : i < ks.length) : minL (ks.take (i + 1)) x = minF false (minL (ks.take i) x) ks[i] := by
  unfold minL; rw [List.take_succ_eq_append_getElem h, List.foldl_append]; rfl

theorem ct_Safe {G : GB} {H : List As} {b : Nat} {id pn : Int} {xv pv1 pv2 iv ov cv sv : AV} {h : Int} {bg dn : Bool} {ks : List Int} (r : Reads G H b (.cells none false (procC id pn xv pv1 pv2 iv ov cv sv h bg dn))) (hk : Ints (Reads G H) cv ks) (hN : ks.length < 1000) :
    Ct prog n_process_Process_Safe [.ptr b 0] G H (fun v G' H' => v = .int .i64 (minL ks never) ∧ G = G' ∧ H' = H) := by
  have l1 := hk.len
  refine ct_body (fn := f_process_Process_Safe) rfl rfl rfl ?_
  repeat refine wp_seq ?_
  refine wp_ops ?_
  refine s_mv ?_; refine wpi_nil ?_
  repeat refine wp_seq ?_
  refine wp_ops ?_
  refine s_mv ?_; refine wpi_nil ?_
  repeat refine wp_seq ?_
  refine wp_ops ?_
  refine s_mv ?_; refine s_eq ?_; refine wpi_nil ?_
  repeat refine wp_seq ?_
  refine wp_cond rfl (fun h1 => ?_) (fun h1 => ?_)
  · cases h1
  repeat refine wp_seq ?_
  refine wp_skip ?_
  repeat refine wp_seq ?_
  refine wp_ops ?_
  refine s_mv ?_; (first | refine s_nc ?_ | refine s_ncf ?_ | refine s_nci ?_); refine s_fA ?_; refine s_ld ?_; refine s_ln ?_; refine s_mv ?_; refine wpi_nil ?_
  repeat refine wp_seq ?_
  refine wp_block ?_
  refine wp_loopX (α := Unit) ks.length (fun i _ => [(13, intN i), (12, intN ks.length), (11, cv), (3, .int .i64 (minL (ks.take i) never))]) (fun _ _ => H) (fun _ _ => True) () trivial (by repeat (first | exact SubE.nil | refine SubE.cons rfl ?_)) (by repeat (first | exact HLe.refl | apply HLe.cons | apply HLe.drop)) ?_
  rintro i - hil -
  repeat refine wp_seq ?_
  refine wp_ops ?_
  refine s_ib ?_; refine wpi_nil ?_
  repeat refine wp_seq ?_
  refine wp_cond rfl (fun h1 => ?_) (fun h1 => ?_)
  · have hlt : i < ks.length := by simpa using h1
    clear h1
    obtain ⟨lb, lo, lcap, lop, lro, lc, rfl, k2, k5⟩ := Ints.at hk hlt
    have ht := minL_take ks never hlt
    have hm : minI false (.int .i64 (minL (ks.take i) never)) [.int .i64 ks[i]] = some (.int .i64 (minL (ks.take (i + 1)) never)) := by rw [ht]; rfl
    repeat refine wp_seq ?_
    refine wp_skip ?_
    refine wp_seq ?_
    repeat refine wp_seq ?_
    refine wp_block ?_
    repeat refine wp_seq ?_
    refine wp_ops ?_
    (first | refine s_ix ?_ | refine s_ixi ?_); refine s_ld ?_; refine s_mv ?_; refine wpi_nil ?_
    repeat refine wp_seq ?_
    refine wp_ops ?_
    refine s_mv ?_; refine s_mv ?_; refine s_mn ?_; refine s_mv ?_; refine wpi_nil ?_
    repeat refine wp_seq ?_
    refine wp_ops ?_
    refine s_ad ?_; refine s_mv ?_; refine wpi_nil ?_
    exact ⟨rfl, hlt, (), trivial, by repeat (first | exact SubE.nil | refine SubE.cons rfl ?_), by repeat (first | exact HLe.refl | apply HLe.cons | apply HLe.drop)⟩
  · have hi : i = ks.length := by
      have : ¬ (i : Int) < ks.length := of_decide_eq_false h1
      omega
    subst hi
    repeat refine wp_seq ?_
    refine wp_exit ?_
    repeat refine wp_seq ?_
    refine wp_ops ?_
    refine s_mv ?_; refine s_mv ?_; refine wpi_nil ?_
    repeat refine wp_seq ?_
    refine wp_ret ?_
    refine ⟨_, .tmp rfl .nil, _, (by repeat (first | exact HLe.refl | apply HLe.cons | apply HLe.drop)), ?_, rfl, rfl⟩
    rw [List.take_length]; rfl

