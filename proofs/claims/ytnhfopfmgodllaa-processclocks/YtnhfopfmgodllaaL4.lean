/-
  A part of the proof: contracts of functions of the program, over the abstract machine.
-/
import Derived.Test.YtnhfopfmgodllaaL3
noncomputable section
namespace Go.Sl
open Go Go.Ab Cd
set_option linter.unusedVariables false
set_option linter.unusedSimpArgs false
set_option maxRecDepth 10000

def compactTo (xs : List Lane) : Nat → List Lane
  | 0 => []
  | k + 1 => if k = 0 ∨ sameWay (xs.getD k default) (xs.getD (k - 1) default) = false then compactTo xs k ++ [xs.getD k default] else compactTo xs k
def compactL (xs : List Lane) : List Lane := compactTo xs xs.length
theorem compactTo_le (xs : List Lane) : ∀ k, (compactTo xs k).length ≤ k
  | 0 => by simp [compactTo]
  | k + 1 => by
    have := compactTo_le xs k
    unfold compactTo; split <;> simp <;> omega
theorem flat_SlR {D : RD} {b n : Nat} {cap op : Option Nat} {ro : Bool} {xs : List Lane} (h : D b (.cells op ro (xs.flatMap laneF))) (hn : n = xs.length) : SlR D 3 (.slc b 0 n cap) n (xs.flatMap laneF) := by
  subst hn
  refine ⟨flat_len laneF_len _, .inr ⟨b, 0, cap, op, ro, _, rfl, h, ?_⟩⟩
  have := slice?_all (xs.flatMap laneF)
  rwa [flat_len laneF_len] at this
theorem repl_len {z : List AV} : ∀ n, (repl z n).length = n * z.length
  | 0 => by simp [repl]
  | n + 1 => by simp only [repl, List.length_append, repl_len n, Nat.add_mul]; omega

theorem ct_Compact {G : GB} {blk n : Nat} {xs : List Lane} (hn : n = xs.length) (hN : n < 1000000) :
    Ct prog n_slices_CompactFunc__lane_Lane_lane_Lane [.slc blk 0 n none, .fn n_lane_Of_2 []] G [pt blk (.cells (some 3) false (xs.flatMap laneF))]
      (fun v G' H' => SlR (Gr G') 3 v (compactL xs).length ((compactL xs).flatMap laneF) ∧ H' = []) := by
  refine ct_body (fn := f_slices_CompactFunc__lane_Lane_lane_Lane) rfl rfl rfl ?_
  repeat refine wp_seq ?_
  refine wp_ops ?_
  refine s_mv ?_; refine wpi_nil ?_
  repeat refine wp_seq ?_
  refine wp_ops ?_
  refine s_mv ?_; refine s_ln ?_; refine s_ib ?_; refine wpi_nil ?_
  repeat refine wp_seq ?_
  refine wp_cond rfl (fun h1 => ?_) (fun h1 => ?_)
  · have hl : xs.length < 2 := by have := of_decide_eq_true h1; omega
    refine wp_seq ?_
    refine wp_ops ?_
    refine s_mv ?_; refine s_mv ?_; refine wpi_nil ?_
    have h : compactL xs = xs := by
      match xs, hl with
      | [], _ => rfl
      | [x], _ => rfl
    refine Wp.freeze .head fun le => ?_
    repeat refine wp_seq ?_
    refine wp_ret ?_
    refine ⟨_, .tmp rfl .nil, [], HLe.nil, ?_, rfl⟩
    rw [h, ← hn]
    exact flat_SlR (putG_same _ _ _) hn
  have hl : 2 ≤ n := by have := of_decide_eq_false h1; omega
  clear h1
  repeat refine wp_seq ?_
  refine wp_skip ?_
  repeat refine wp_seq ?_
  refine wp_ops ?_
  refine s_mv ?_; refine wpi_nil ?_
  repeat refine wp_seq ?_
  refine wp_block ?_
  refine wp_loopX (α := Unit) (n - 1) (fun i _ => [(5, intN (1 + i)), (0, .slc blk 0 n none), (1, .fn n_lane_Of_2 [])]) (fun _ _ => [pt blk (.cells (some 3) false (xs.flatMap laneF))]) (fun i _ => compactTo xs (1 + i) = xs.take (1 + i)) () (by
    rw [show (1 + 0) = 0 + 1 from rfl, List.take_succ_eq_append_getElem (by omega)]
    simp only [compactTo, true_or, if_true, List.take_zero]
    rw [getD_lt (by omega)]) (by repeat (first | exact SubE.nil | refine SubE.cons rfl ?_)) (by repeat (first | exact HLe.refl | apply HLe.cons | apply HLe.drop)) ?_
  rintro i - hil hc
  repeat refine wp_seq ?_
  refine wp_ops ?_
  refine s_mv ?_; refine s_mv ?_; refine s_ln ?_; refine s_ib ?_; refine wpi_nil ?_
  repeat refine wp_seq ?_
  refine wp_cond rfl (fun h1 => ?_) (fun h1 => ?_)
  · have hlt : 1 + i < n := by have := of_decide_eq_true h1; omega
    clear h1
    have e1 : (((1 + i : Nat) : Int) - 1).toNat = i := by omega
    have g1 : Ab.part (xs.flatMap laneF) (0 + (1 + i) * 3) (some 3) = some (.agg (laneF (xs.getD (1 + i) default))) := by rw [part_flat laneF_len (by omega), getD_lt (by omega)]
    have g2 : Ab.part (xs.flatMap laneF) (0 + (((1 + i : Nat) : Int) - 1).toNat * 3) (some 3) = some (.agg (laneF (xs.getD i default))) := by rw [e1, part_flat laneF_len (by omega), getD_lt (by omega)]
    have hcs : compactTo xs (1 + i + 1) = if sameWay (xs.getD (1 + i) default) (xs.getD i default) = false then xs.take (1 + i) ++ [xs.getD (1 + i) default] else xs.take (1 + i) := by
      rw [compactTo, show 1 + i - 1 = i by omega, hc]; simp only [show ¬ (1 + i = 0) by omega, false_or]
    repeat refine wp_seq ?_
    refine wp_skip ?_
    refine wp_seq ?_
    repeat refine wp_seq ?_
    refine wp_block ?_
    repeat refine wp_seq ?_
    refine wp_ops ?_
    refine s_mv ?_; refine s_mv ?_; refine s_mv ?_; (first | refine s_ix ?_ | refine s_ixi ?_); refine s_ld ?_; refine s_mv ?_; refine s_mv ?_; refine s_sb ?_
    (first | refine s_ix ?_ | refine s_ixi ?_); refine s_ld ?_
    refine wpi_callV rfl rfl (ct_sameWay) (by repeat (first | exact HLe.splitNil | (apply HLe.splitCons; focus (repeat (first | exact Take.head | apply Take.tail))))) ?_
    rintro v28 G28 H28 le28 ⟨rfl, rfl, rfl⟩
    try simp only [List.nil_append, List.cons_append]
    refine wpi_nil ?_
    repeat refine wp_seq ?_
    refine wp_cond rfl (fun h1 => ?_) (fun h1 => ?_)
    · have hx0 : compactTo xs (1 + i + 1) = xs.take (1 + i) := by rw [hcs, if_neg (by rw [h1]; nofun)]
      clear hcs g1 g2
      obtain ⟨k0, hk0⟩ : ∃ k0, k0 = 1 + i := ⟨_, rfl⟩
      rw [← hk0] at hx0 hlt ⊢
      refine wp_seq ?_
      refine wp_ops ?_
      refine s_mv ?_; refine s_mv ?_
      refine wpi_slcU (lo' := some (intN k0)) (hi' := none) (l' := k0) (h' := n) rfl rfl rfl (.h .head) rfl (bound_nat (by omega)) ?_
      refine s_mv ?_; refine wpi_nil ?_
      repeat refine wp_seq ?_
      refine wp_ops ?_
      refine s_mv ?_; refine wpi_nil ?_
      have hr0 : (xs.take k0).length = k0 := by simp; omega
      repeat refine wp_seq ?_
      refine wp_block ?_
      refine wp_loopX (α := List Lane) (n - k0 - 1) (fun m _ => [(7, intN (1 + m)), (6, .slc blk (0 + k0 * 3) (n - k0) none), (5, intN (compactTo xs (k0 + 1 + m)).length), (0, .slc blk 0 n none), (1, .fn n_lane_Of_2 [])]) (fun m ys => [pt blk (.cells (some 3) false (ys.flatMap laneF))])
        (fun m ys => ys.length = n ∧ ys.take (compactTo xs (k0 + 1 + m)).length = compactTo xs (k0 + 1 + m) ∧ (compactTo xs (k0 + 1 + m)).length ≤ k0 + m ∧ ∀ q, k0 + m ≤ q → ys.getD q default = xs.getD q default) xs
        ⟨hn.symm, by rw [Nat.add_zero, hx0, hr0], by rw [Nat.add_zero, hx0, hr0]; omega, fun _ _ => rfl⟩ (by rw [Nat.add_zero, hx0, hr0]; repeat (first | exact SubE.nil | refine SubE.cons rfl ?_)) (by repeat (first | exact HLe.nil | (apply HLe.take; focus (repeat (first | exact Take.head | apply Take.tail))))) ?_
      rintro m ys hml ⟨hyl, hyt, hyk, hyq⟩
      have hct : compactTo xs (k0 + 1 + (m + 1)) = if sameWay (xs.getD (k0 + 1 + m) default) (xs.getD (k0 + m) default) = false then compactTo xs (k0 + 1 + m) ++ [xs.getD (k0 + 1 + m) default] else compactTo xs (k0 + 1 + m) := by
        rw [show k0 + 1 + (m + 1) = (k0 + 1 + m) + 1 by omega, compactTo, show k0 + 1 + m - 1 = k0 + m by omega]; simp only [show ¬ (k0 + 1 + m = 0) by omega, false_or]
      have hdone : m = n - k0 - 1 → compactTo xs (k0 + 1 + m) = compactL xs := fun e => by rw [compactL, e]; congr 1; omega
      generalize compactTo xs (k0 + 1 + m) = C at *
      repeat refine wp_seq ?_
      refine wp_ops ?_
      refine s_mv ?_; refine s_mv ?_; refine s_ln ?_; refine s_ib ?_; refine wpi_nil ?_
      repeat refine wp_seq ?_
      refine wp_cond rfl (fun h1 => ?_) (fun h1 => ?_)
      · have hmt : 1 + m < n - k0 := by have := of_decide_eq_true h1; omega
        clear h1
        have e2 : (((1 + m : Nat) : Int) - 1).toNat = m := by omega
        have g1 : Ab.part (ys.flatMap laneF) (0 + k0 * 3 + (1 + m) * 3) (some 3) = some (.agg (laneF (xs.getD (k0 + 1 + m) default))) := by
          rw [show 0 + k0 * 3 + (1 + m) * 3 = 0 + (k0 + 1 + m) * 3 by omega, part_flat laneF_len (by omega), ← hyq (k0 + 1 + m) (by omega), getD_lt (by omega)]
        have g2 : Ab.part (ys.flatMap laneF) (0 + k0 * 3 + (((1 + m : Nat) : Int) - 1).toNat * 3) (some 3) = some (.agg (laneF (xs.getD (k0 + m) default))) := by
          rw [e2, show 0 + k0 * 3 + m * 3 = 0 + (k0 + m) * 3 by omega, part_flat laneF_len (by omega), ← hyq (k0 + m) (by omega), getD_lt (by omega)]
        repeat refine wp_seq ?_
        refine wp_skip ?_
        refine wp_seq ?_
        repeat refine wp_seq ?_
        refine wp_block ?_
        repeat refine wp_seq ?_
        refine wp_ops ?_
        refine s_mv ?_; refine s_mv ?_; refine s_mv ?_; (first | refine s_ix ?_ | refine s_ixi ?_); refine s_ld ?_; refine s_mv ?_; refine s_mv ?_; refine s_sb ?_
        (first | refine s_ix ?_ | refine s_ixi ?_); refine s_ld ?_
        refine wpi_callV rfl rfl (ct_sameWay) (by repeat (first | exact HLe.splitNil | (apply HLe.splitCons; focus (repeat (first | exact Take.head | apply Take.tail))))) ?_
        rintro v48 G48 H48 le48 ⟨rfl, rfl, rfl⟩
        try simp only [List.nil_append, List.cons_append]
        refine s_no ?_; refine wpi_nil ?_
        repeat refine wp_seq ?_
        refine wp_cond rfl (fun h1 => ?_) (fun h1 => ?_)
        · have hsw : sameWay (xs.getD (k0 + 1 + m) default) (xs.getD (k0 + m) default) = false := by simpa using h1
          rw [if_pos hsw] at hct
          have s1 : splice (ys.flatMap laneF) (0 + C.length * 3) (laneF (xs.getD (k0 + 1 + m) default)) = some ((ys.set C.length (xs.getD (k0 + 1 + m) default)).flatMap laneF) := splice_flat laneF_len (by omega)
          repeat refine wp_seq ?_
          refine wp_ops ?_
          refine s_mv ?_; refine s_mv ?_; refine s_mv ?_; refine s_mv ?_; (first | refine s_ix ?_ | refine s_ixi ?_); refine s_ld ?_; (first | refine s_ix ?_ | refine s_ixi ?_); refine s_st ?_
          refine wpi_nil ?_
          repeat refine wp_seq ?_
          refine wp_ops ?_
          refine s_mv ?_; refine s_ad ?_; refine s_mv ?_; refine wpi_nil ?_
          repeat refine wp_seq ?_
          refine wp_ops ?_
          refine s_mv ?_; refine s_ad ?_; refine s_mv ?_; refine wpi_nil ?_
          refine ⟨rfl, by omega, ys.set C.length (xs.getD (k0 + 1 + m) default), ⟨by rw [List.length_set]; exact hyl, ?_, ?_, ?_⟩, ?_, by repeat (first | exact HLe.nil | (apply HLe.take; focus (repeat (first | exact Take.head | apply Take.tail))))⟩
          · rw [hct, List.length_append, List.length_singleton, List.take_succ_eq_append_getElem (by rw [List.length_set]; omega), List.take_set_of_le (by omega), hyt, List.getElem_set_self]
          · rw [hct, List.length_append, List.length_singleton]; omega
          · intro q hq
            rw [← hyq q (by omega)]
            simp only [List.getD_eq_getElem?_getD, List.getElem?_set_ne (show C.length ≠ q by omega)]
          · rw [hct, List.length_append, List.length_singleton]; repeat (first | exact SubE.nil | refine SubE.cons rfl ?_)
        · have hsw : ¬ sameWay (xs.getD (k0 + 1 + m) default) (xs.getD (k0 + m) default) = false := by simpa using h1
          rw [if_neg hsw] at hct
          repeat refine wp_seq ?_
          refine wp_skip ?_
          repeat refine wp_seq ?_
          refine wp_ops ?_
          refine s_mv ?_; refine s_ad ?_; refine s_mv ?_; refine wpi_nil ?_
          refine ⟨rfl, by omega, ys, ⟨hyl, by rw [hct]; exact hyt, by rw [hct]; omega, fun q hq => hyq q (by omega)⟩, by rw [hct]; repeat (first | exact SubE.nil | refine SubE.cons rfl ?_), by repeat (first | exact HLe.nil | (apply HLe.take; focus (repeat (first | exact Take.head | apply Take.tail))))⟩
      · have hm : m = n - k0 - 1 := by have := of_decide_eq_false h1; omega
        have hCl := hdone hm
        clear h1 hct hdone
        subst hm
        have hs1 : splice (ys.flatMap laneF) (0 + C.length * 3) (repl [AV.int .i64 0, AV.int .i64 0, AV.int .i64 0] (n - C.length)) = some (C.flatMap laneF ++ repl [AV.int .i64 0, AV.int .i64 0, AV.int .i64 0] (n - C.length)) := by
          have hrl := repl_len (z := [AV.int .i64 0, AV.int .i64 0, AV.int .i64 0]) (n - C.length)
          simp only [List.length_cons, List.length_nil] at hrl
          have hfl := flat_len laneF_len ys
          rw [Nat.zero_add, splice_spec (by omega), flat_take laneF_len, hyt, List.drop_of_length_le (by omega), List.append_nil]
        repeat refine wp_seq ?_
        refine wp_exit ?_
        refine wp_seq ?_
        refine wp_ops ?_
        refine s_mv ?_; refine s_mv ?_
        refine wpi_slcU (lo' := some (intN C.length)) (hi' := none) (l' := C.length) (h' := n) rfl rfl rfl (.h .head) rfl (bound_nat (by omega)) ?_
        refine wpi_clear rfl (by omega) rfl .head hs1 ?_
        refine wpi_nil ?_
        refine wp_seq ?_
        refine wp_ops ?_
        refine s_mv ?_; refine s_mv ?_
        refine wpi_slcU (lo' := none) (hi' := some (intN C.length)) (l' := 0) (h' := C.length) rfl rfl rfl (.h .head) (bound_nat (by omega)) rfl ?_
        refine s_mv ?_; refine wpi_nil ?_
        refine Wp.freeze .head fun le => ?_
        repeat refine wp_seq ?_
        refine wp_ret ?_
        refine ⟨_, .tmp rfl .nil, [], HLe.nil, ?_, rfl⟩
        rw [← hCl]
        refine ⟨flat_len laneF_len _, .inr ⟨blk, 0, none, _, _, _, ?_, putG_same _ _ _, ?_⟩⟩
        · simp [asOne]
        · rw [slice?_mk (by rw [List.length_append, flat_len laneF_len]; omega), List.drop_zero, List.take_left' (flat_len laneF_len _)]
    · have hsw : sameWay (xs.getD (1 + i) default) (xs.getD i default) = false := h1
      repeat refine wp_seq ?_
      refine wp_skip ?_
      repeat refine wp_seq ?_
      refine wp_ops ?_
      refine s_mv ?_; refine s_ad ?_; refine s_mv ?_; refine wpi_nil ?_
      refine ⟨rfl, by omega, (), ?_, by repeat (first | exact SubE.nil | refine SubE.cons rfl ?_), by repeat (first | exact HLe.refl | apply HLe.cons | apply HLe.drop)⟩
      rw [← Nat.add_assoc, hcs, if_pos hsw, List.take_succ_eq_append_getElem (by omega), getD_lt (by omega)]
  · have hi : 1 + i = n := by have := of_decide_eq_false h1; omega
    repeat refine wp_seq ?_
    refine wp_exit ?_
    refine wp_seq ?_
    refine wp_ops ?_
    refine s_mv ?_; refine s_mv ?_; refine wpi_nil ?_
    have h : compactL xs = xs := by rw [compactL, ← hn, ← hi, hc, hi, hn, List.take_length]
    refine Wp.freeze .head fun le => ?_
    repeat refine wp_seq ?_
    refine wp_ret ?_
    refine ⟨_, .tmp rfl .nil, [], HLe.nil, ?_, rfl⟩
    rw [h, ← hn]
    exact flat_SlR (putG_same _ _ _) hn

