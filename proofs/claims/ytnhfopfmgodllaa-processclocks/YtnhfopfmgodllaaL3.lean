/-
  A part of the proof: contracts of functions of the program, over the abstract machine.
-/
import Derived.Test.YtnhfopfmgodllaaL2
noncomputable section
namespace Go.Sl
open Go Go.Ab Cd
set_option linter.unusedVariables false
set_option linter.unusedSimpArgs false
set_option maxRecDepth 10000

def bitsOf (n : Nat) : Nat := Nat.log2 (2 * n)
theorem len8_tab : ∀ n : Nat, n < 256 → [0,1,2,2,3,3,3,3,4,4,4,4,4,4,4,4,5,5,5,5,5,5,5,5,5,5,5,5,5,5,5,5,6,6,6,6,6,6,6,6,6,6,6,6,6,6,6,6,6,6,6,6,6,6,6,6,6,6,6,6,6,6,6,6,7,7,7,7,7,7,7,7,7,7,7,7,7,7,7,7,7,7,7,7,7,7,7,7,7,7,7,7,7,7,7,7,7,7,7,7,7,7,7,7,7,7,7,7,7,7,7,7,7,7,7,7,7,7,7,7,7,7,7,7,7,7,7,7,8,8,8,8,8,8,8,8,8,8,8,8,8,8,8,8,8,8,8,8,8,8,8,8,8,8,8,8,8,8,8,8,8,8,8,8,8,8,8,8,8,8,8,8,8,8,8,8,8,8,8,8,8,8,8,8,8,8,8,8,8,8,8,8,8,8,8,8,8,8,8,8,8,8,8,8,8,8,8,8,8,8,8,8,8,8,8,8,8,8,8,8,8,8,8,8,8,8,8,8,8,8,8,8,8,8,8,8,8,8,8,8,8,8,8,8,8,8,8,8,8,8,8,8,8,8,8,8][n]? = some (bitsOf n) ∧ bitsOf n ≤ 8 := by decide +kernel

theorem ct_Len64 {G : GB} {n : Nat} (hn : n < 256) : Ct prog n_math_bits_Len64 [.int .u64 (n : Int)] G [] (fun v G' H' => v = intN (bitsOf n) ∧ G = G' ∧ H' = []) := by
  obtain ⟨t1, t2⟩ := len8_tab n hn
  refine ct_body (fn := f_math_bits_Len64) rfl rfl rfl ?_
  repeat refine wp_seq ?_
  refine wp_ops ?_
  refine s_mv ?_; refine wpi_nil ?_
  repeat refine wp_seq ?_
  refine wp_ops ?_
  refine s_mv ?_; refine s_ib ?_; refine wpi_nil ?_
  repeat refine wp_seq ?_
  refine wp_cond rfl (fun h1 => ?_) (fun h1 => ?_)
  · exact absurd (of_decide_eq_true h1) (by omega)
  repeat refine wp_seq ?_
  refine wp_skip ?_
  repeat refine wp_seq ?_
  refine wp_ops ?_
  refine s_mv ?_; refine s_ib ?_; refine wpi_nil ?_
  repeat refine wp_seq ?_
  refine wp_cond rfl (fun h1 => ?_) (fun h1 => ?_)
  · exact absurd (of_decide_eq_true h1) (by omega)
  repeat refine wp_seq ?_
  refine wp_skip ?_
  repeat refine wp_seq ?_
  refine wp_ops ?_
  refine s_mv ?_; refine s_ib ?_; refine wpi_nil ?_
  repeat refine wp_seq ?_
  refine wp_cond rfl (fun h1 => ?_) (fun h1 => ?_)
  · exact absurd (of_decide_eq_true h1) (by omega)
  repeat refine wp_seq ?_
  refine wp_skip ?_
  repeat refine wp_seq ?_
  refine wp_ops ?_
  refine s_mv ?_; refine s_mv ?_; refine s_cv ?_; refine s_xs ?_; refine s_cv ?_; refine s_ad ?_; refine s_mv ?_; refine wpi_nil ?_
  repeat refine wp_seq ?_
  refine wp_ret ?_
  refine ⟨_, .tmp rfl .nil, [], by repeat (first | exact HLe.refl | apply HLe.cons | apply HLe.drop), ?_, rfl, rfl⟩
  simp [asOne]

theorem ct_Len {G : GB} {n : Nat} (hn : n < 256) : Ct prog n_math_bits_Len [.int .u64 (n : Int)] G [] (fun v G' H' => v = intN (bitsOf n) ∧ G = G' ∧ H' = []) := by
  refine ct_body (fn := f_math_bits_Len) rfl rfl rfl ?_
  repeat refine wp_seq ?_
  refine wp_ops ?_
  refine s_mv ?_; refine wpi_nil ?_
  repeat refine wp_seq ?_
  refine wp_cond rfl (fun h1 => ?_) (fun h1 => ?_)
  · cases h1
  repeat refine wp_seq ?_
  refine wp_skip ?_
  repeat refine wp_seq ?_
  refine wp_ops ?_
  refine s_mv ?_
  refine wpi_callF rfl (ct_Len64 hn) (by repeat (first | exact HLe.splitNil | (apply HLe.splitCons; focus (repeat (first | exact Take.head | apply Take.tail))))) ?_
  rintro v7 G7 H7 le7 ⟨rfl, rfl, rfl⟩
  try simp only [List.nil_append, List.cons_append]
  refine s_mv ?_; refine wpi_nil ?_
  repeat refine wp_seq ?_
  refine wp_ret ?_
  exact ⟨_, .tmp rfl .nil, [], by repeat (first | exact HLe.refl | apply HLe.cons | apply HLe.drop), rfl, rfl, rfl⟩

theorem ct_insert0 {G : GB} : Ct prog n_slices_insertionSortCmpFunc_lane_Lane [.nils, intN 0, intN 0, .fn n_lane_Of_1 []] G [] (fun v G' H' => G = G' ∧ H' = []) := by
  refine ct_body (fn := f_slices_insertionSortCmpFunc_lane_Lane) rfl rfl rfl ?_
  repeat refine wp_seq ?_
  refine wp_ops ?_
  refine s_mv ?_; refine s_ad ?_; refine s_mv ?_; refine wpi_nil ?_
  repeat refine wp_seq ?_
  refine wp_block ?_
  refine wp_loopX (α := Unit) 0 (fun k _ => [(8, intN 1), (2, intN 0)]) (fun _ _ => []) (fun k _ => True) () trivial (by repeat (first | exact SubE.nil | refine SubE.cons rfl ?_)) (by repeat (first | exact HLe.refl | apply HLe.cons | apply HLe.drop)) ?_
  rintro k - - -
  repeat refine wp_seq ?_
  refine wp_ops ?_
  refine s_mv ?_; refine s_mv ?_; refine s_ib ?_; refine wpi_nil ?_
  repeat refine wp_seq ?_
  refine wp_cond rfl (fun h1 => ?_) (fun h1 => ?_)
  · exact absurd (of_decide_eq_true h1) (by omega)
  repeat refine wp_seq ?_
  refine wp_exit ?_
  exact ⟨[], .nil, _, HLe.refl, rfl, rfl⟩

/-- What a sort does. -/
def SortR (G : GB) (blk : Nat) (op : Option Nat) (a b : Nat) (xs : List Lane) : AV → GB → List As → Prop := fun v G' H' => G = G' ∧ ∃ ys, SegP a b xs ys ∧ Sorted a b ys ∧ H' = [pt blk (.cells op false (ys.flatMap laneF))]

theorem ct_pdq12 {G : GB} {blk : Nat} {op : Option Nat} {cap : Option Nat} {n a b m : Nat} {xs : List Lane} (hn : n = xs.length) (ha : a ≤ b) (hb : b ≤ n) (hN : n < 1000000) (h12 : b - a ≤ 12) :
    Ct prog n_slices_pdqsortCmpFunc_lane_Lane [.slc blk 0 n cap, intN a, intN b, intN m, .fn n_lane_Of_1 []] G [pt blk (.cells op false (xs.flatMap laneF))] (SortR G blk op a b xs) := by
  refine ct_body (fn := f_slices_pdqsortCmpFunc_lane_Lane) rfl rfl rfl ?_
  repeat refine wp_seq ?_
  refine wp_ops ?_
  refine s_mv ?_; refine wpi_nil ?_
  repeat refine wp_seq ?_
  refine wp_ops ?_
  refine s_mv ?_; refine wpi_nil ?_
  repeat refine wp_seq ?_
  refine wp_block ?_
  refine wp_loopX (α := Unit) 0 (fun k _ => [(0, .slc blk 0 n cap), (1, intN a), (2, intN b), (4, .fn n_lane_Of_1 [])]) (fun _ _ => [pt blk (.cells op false (xs.flatMap laneF))]) (fun k _ => True) () trivial (by repeat (first | exact SubE.nil | refine SubE.cons rfl ?_)) (by repeat (first | exact HLe.refl | apply HLe.cons | apply HLe.drop)) ?_
  rintro k - - -
  repeat refine wp_seq ?_
  refine wp_block ?_
  repeat refine wp_seq ?_
  refine wp_ops ?_
  refine s_mv ?_; refine s_mv ?_; refine s_sb ?_; refine s_mv ?_; refine wpi_nil ?_
  repeat refine wp_seq ?_
  refine wp_ops ?_
  refine s_mv ?_; refine s_ib ?_; refine wpi_nil ?_
  repeat refine wp_seq ?_
  refine wp_cond rfl (fun h1 => ?_) (fun h1 => ?_)
  · repeat refine wp_seq ?_
    refine wp_ops ?_
    refine s_mv ?_; refine s_mv ?_; refine s_mv ?_; refine s_mv ?_
    refine wpi_callF rfl (ct_insert hn ha hb hN) (by repeat (first | exact HLe.splitNil | (apply HLe.splitCons; focus (repeat (first | exact Take.head | apply Take.tail))))) ?_
    rintro v30 G30 H30 le30 ⟨rfl, ys, h1, h2, rfl⟩
    try simp only [List.nil_append, List.cons_append]
    refine wpi_nil ?_
    repeat refine wp_seq ?_
    refine wp_ret ?_
    exact ⟨[], .nil, _, HLe.refl, rfl, ys, h1, h2, rfl⟩
  · exact absurd (of_decide_eq_false h1) (by omega)
theorem ct_pdq0 {G : GB} {m : Nat} : Ct prog n_slices_pdqsortCmpFunc_lane_Lane [.nils, intN 0, intN 0, intN m, .fn n_lane_Of_1 []] G [] (fun v G' H' => G = G' ∧ H' = []) := by
  refine ct_body (fn := f_slices_pdqsortCmpFunc_lane_Lane) rfl rfl rfl ?_
  repeat refine wp_seq ?_
  refine wp_ops ?_
  refine s_mv ?_; refine wpi_nil ?_
  repeat refine wp_seq ?_
  refine wp_ops ?_
  refine s_mv ?_; refine wpi_nil ?_
  repeat refine wp_seq ?_
  refine wp_block ?_
  refine wp_loopX (α := Unit) 0 (fun k _ => [(0, .nils), (1, intN 0), (2, intN 0), (4, .fn n_lane_Of_1 [])]) (fun _ _ => []) (fun k _ => True) () trivial (by repeat (first | exact SubE.nil | refine SubE.cons rfl ?_)) (by repeat (first | exact HLe.refl | apply HLe.cons | apply HLe.drop)) ?_
  rintro k - - -
  repeat refine wp_seq ?_
  refine wp_block ?_
  repeat refine wp_seq ?_
  refine wp_ops ?_
  refine s_mv ?_; refine s_mv ?_; refine s_sb ?_; refine s_mv ?_; refine wpi_nil ?_
  repeat refine wp_seq ?_
  refine wp_ops ?_
  refine s_mv ?_; refine s_ib ?_; refine wpi_nil ?_
  repeat refine wp_seq ?_
  refine wp_cond rfl (fun h1 => ?_) (fun h1 => ?_)
  · repeat refine wp_seq ?_
    refine wp_ops ?_
    refine s_mv ?_; refine s_mv ?_; refine s_mv ?_; refine s_mv ?_
    refine wpi_callF rfl (ct_insert0) (by repeat (first | exact HLe.splitNil | (apply HLe.splitCons; focus (repeat (first | exact Take.head | apply Take.tail))))) ?_
    rintro v30 G30 H30 le30 ⟨rfl, rfl⟩
    try simp only [List.nil_append, List.cons_append]
    refine wpi_nil ?_
    repeat refine wp_seq ?_
    refine wp_ret ?_
    exact ⟨[], .nil, _, HLe.refl, rfl, rfl⟩
  · exact absurd (of_decide_eq_false h1) (by omega)

/-- So many are sorted. -/
def mostLanes : Nat := 12
theorem ct_pdq {G : GB} {blk : Nat} {op : Option Nat} {cap : Option Nat} {n : Nat} {xs : List Lane} (hn : n = xs.length) (hm : n ≤ mostLanes) :
    Ct prog n_slices_pdqsortCmpFunc_lane_Lane [.slc blk 0 n cap, intN 0, intN n, intN (bitsOf n), .fn n_lane_Of_1 []] G [pt blk (.cells op false (xs.flatMap laneF))] (SortR G blk op 0 n xs) := by
  unfold mostLanes at hm
  exact ct_pdq12 hn (Nat.zero_le _) (Nat.le_refl _) (by omega) (by omega)

theorem ct_SortFunc {G : GB} {blk : Nat} {op : Option Nat} {cap : Option Nat} {n : Nat} {xs : List Lane} (hn : n = xs.length) (hm : n ≤ mostLanes) :
    Ct prog n_slices_SortFunc__lane_Lane_lane_Lane [.slc blk 0 n cap, .fn n_lane_Of_1 []] G [pt blk (.cells op false (xs.flatMap laneF))] (SortR G blk op 0 n xs) := by
  have hm' : n < 256 := by unfold mostLanes at hm; omega
  refine ct_body (fn := f_slices_SortFunc__lane_Lane_lane_Lane) rfl rfl rfl ?_
  repeat refine wp_seq ?_
  refine wp_ops ?_
  refine s_mv ?_; refine s_ln ?_; refine s_mv ?_; refine wpi_nil ?_
  repeat refine wp_seq ?_
  refine wp_ops ?_
  refine s_mv ?_; refine s_mv ?_; refine s_mv ?_; refine s_cv ?_
  refine wpi_callF rfl (ct_Len hm') (by repeat (first | exact HLe.splitNil | (apply HLe.splitCons; focus (repeat (first | exact Take.head | apply Take.tail))))) ?_
  rintro v11 G11 H11 le11 ⟨rfl, rfl, rfl⟩
  try simp only [List.nil_append, List.cons_append]
  refine s_mv ?_
  refine wpi_callF rfl (ct_pdq hn hm) (by repeat (first | exact HLe.splitNil | (apply HLe.splitCons; focus (repeat (first | exact Take.head | apply Take.tail))))) ?_
  rintro v13 G13 H13 le13 ⟨rfl, ys, h1, h2, rfl⟩
  try simp only [List.nil_append, List.cons_append]
  refine wpi_nil ?_
  exact ⟨[], .nil, _, HLe.refl, rfl, ys, h1, h2, rfl⟩
theorem ct_SortFunc0 {G : GB} : Ct prog n_slices_SortFunc__lane_Lane_lane_Lane [.nils, .fn n_lane_Of_1 []] G [] (fun v G' H' => G = G' ∧ H' = []) := by
  refine ct_body (fn := f_slices_SortFunc__lane_Lane_lane_Lane) rfl rfl rfl ?_
  repeat refine wp_seq ?_
  refine wp_ops ?_
  refine s_mv ?_; refine s_ln ?_; refine s_mv ?_; refine wpi_nil ?_
  repeat refine wp_seq ?_
  refine wp_ops ?_
  refine s_mv ?_; refine s_mv ?_; refine s_mv ?_; refine s_cv ?_
  refine wpi_callF rfl (ct_Len (n := 0) (by decide)) (by repeat (first | exact HLe.splitNil | (apply HLe.splitCons; focus (repeat (first | exact Take.head | apply Take.tail))))) ?_
  rintro v11 G11 H11 le11 ⟨rfl, rfl, rfl⟩
  try simp only [List.nil_append, List.cons_append]
  refine s_mv ?_
  refine wpi_callF rfl (ct_pdq0) (by repeat (first | exact HLe.splitNil | (apply HLe.splitCons; focus (repeat (first | exact Take.head | apply Take.tail))))) ?_
  rintro v13 G13 H13 le13 ⟨rfl, rfl⟩
  try simp only [List.nil_append, List.cons_append]
  refine wpi_nil ?_
  exact ⟨[], .nil, _, HLe.refl, rfl, rfl⟩

