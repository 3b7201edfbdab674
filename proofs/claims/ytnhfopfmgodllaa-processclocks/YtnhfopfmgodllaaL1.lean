/-
  A part of the proof: contracts of functions of the program, over the abstract machine.
-/
import Derived.Test.YtnhfopfmgodllaaF8
noncomputable section
namespace Go.Sl
open Go Go.Ab Cd
set_option linter.unusedVariables false
set_option linter.unusedSimpArgs false
set_option maxRecDepth 10000

structure Lane where
  src : Int
  dst : Int
  ahead : Int
  deriving DecidableEq, Inhabited
def laneF (l : Lane) : List AV := [.int .i64 l.src, .int .i64 l.dst, .int .i64 l.ahead]
def laneC (l : Lane) (c : List AV) : Prop := c = laneF l
def cmpI (a b : Int) : Int := if a < b then -1 else if a > b then 1 else 0
def cmpL (a b : Lane) : Int := if cmpI a.src b.src ≠ 0 then cmpI a.src b.src else if cmpI a.dst b.dst ≠ 0 then cmpI a.dst b.dst else cmpI a.ahead b.ahead

theorem ct_isNaN {G : GB} {a : Int} : Ct prog n_cmp_isNaN_int [.int .i64 a] G [] (fun v G' H' => v = .bool false ∧ G = G' ∧ H' = []) := by
  refine ct_body (fn := f_cmp_isNaN_int) rfl rfl rfl ?_
  repeat refine wp_seq ?_
  refine wp_ops ?_
  refine s_mv ?_; refine wpi_nil ?_
  repeat refine wp_seq ?_
  refine wp_ops ?_
  refine s_mv ?_; refine s_mv ?_; refine s_ib ?_; refine s_mv ?_; refine wpi_nil ?_
  repeat refine wp_seq ?_
  refine wp_ret ?_
  refine ⟨_, .tmp rfl .nil, [], by repeat (first | exact HLe.refl | apply HLe.cons | apply HLe.drop), ?_, rfl, rfl⟩
  simp [asOne]

theorem ct_Compare {G : GB} {a b : Int} : Ct prog n_cmp_Compare_int [.int .i64 a, .int .i64 b] G [] (fun v G' H' => v = .int .i64 (cmpI a b) ∧ G = G' ∧ H' = []) := by
  refine ct_body (fn := f_cmp_Compare_int) rfl rfl rfl ?_
  repeat refine wp_seq ?_
  refine wp_ops ?_
  refine s_mv ?_; refine wpi_nil ?_
  repeat refine wp_seq ?_
  refine wp_ops ?_
  refine s_mv ?_
  refine wpi_callF rfl (ct_isNaN) (by repeat (first | exact HLe.splitNil | (apply HLe.splitCons; focus (repeat (first | exact Take.head | apply Take.tail))))) ?_
  rintro v8 G8 H8 le8 ⟨rfl, rfl, rfl⟩
  try simp only [List.nil_append, List.cons_append]
  refine s_mv ?_; refine wpi_nil ?_
  repeat refine wp_seq ?_
  refine wp_ops ?_
  refine s_mv ?_
  refine wpi_callF rfl (ct_isNaN) (by repeat (first | exact HLe.splitNil | (apply HLe.splitCons; focus (repeat (first | exact Take.head | apply Take.tail))))) ?_
  rintro v10 G10 H10 le10 ⟨rfl, rfl, rfl⟩
  try simp only [List.nil_append, List.cons_append]
  refine s_mv ?_; refine wpi_nil ?_
  repeat refine wp_seq ?_
  refine wp_ops ?_
  refine s_mv ?_; refine wpi_nil ?_
  repeat refine wp_seq ?_
  refine wp_cond rfl (fun h1 => ?_) (fun h1 => ?_)
  · cases h1
  repeat refine wp_seq ?_
  refine wp_skip ?_
  repeat refine wp_seq ?_
  refine wp_ops ?_
  refine s_mv ?_; refine wpi_nil ?_
  repeat refine wp_seq ?_
  refine wp_cond rfl (fun h1 => ?_) (fun h1 => ?_)
  · cases h1
  repeat refine wp_seq ?_
  refine wp_skip ?_
  repeat refine wp_seq ?_
  refine wp_ops ?_
  refine s_mv ?_; refine s_mv ?_; refine s_ib ?_; refine wpi_nil ?_
  repeat refine wp_seq ?_
  refine wp_cond rfl (fun h1 => ?_) (fun h1 => ?_)
  · repeat refine wp_seq ?_
    refine wp_ops ?_
    refine s_mv ?_; refine wpi_nil ?_
    repeat refine wp_seq ?_
    refine wp_ret ?_
    refine ⟨_, .tmp rfl .nil, [], by repeat (first | exact HLe.refl | apply HLe.cons | apply HLe.drop), ?_, rfl, rfl⟩
    rw [cmpI, if_pos (of_decide_eq_true h1)]; rfl
  have g1 := of_decide_eq_false h1
  repeat refine wp_seq ?_
  refine wp_skip ?_
  repeat refine wp_seq ?_
  refine wp_ops ?_
  refine s_mv ?_; refine s_mv ?_; refine s_ib ?_; refine wpi_nil ?_
  repeat refine wp_seq ?_
  refine wp_cond rfl (fun h1 => ?_) (fun h1 => ?_)
  · repeat refine wp_seq ?_
    refine wp_ops ?_
    refine s_mv ?_; refine wpi_nil ?_
    repeat refine wp_seq ?_
    refine wp_ret ?_
    refine ⟨_, .tmp rfl .nil, [], by repeat (first | exact HLe.refl | apply HLe.cons | apply HLe.drop), ?_, rfl, rfl⟩
    rw [cmpI, if_neg g1, if_pos (of_decide_eq_true h1)]; rfl
  repeat refine wp_seq ?_
  refine wp_skip ?_
  repeat refine wp_seq ?_
  refine wp_ops ?_
  refine s_mv ?_; refine wpi_nil ?_
  repeat refine wp_seq ?_
  refine wp_ret ?_
  refine ⟨_, .tmp rfl .nil, [], by repeat (first | exact HLe.refl | apply HLe.cons | apply HLe.drop), ?_, rfl, rfl⟩
  rw [cmpI, if_neg g1, if_neg (of_decide_eq_false h1)]; rfl

def orI (l : List Int) : Int := (l.find? fun x => decide (x ≠ 0)).getD 0
theorem find_none {α : Type} {l : List α} {p : α → Bool} {i : Nat} (hi : ¬ i < l.length) (h : ∀ j (hj : j < l.length), j < i → p l[j] = false) : l.find? p = none := by
  rw [List.find?_eq_none]; intro x hx
  obtain ⟨j, hj, rfl⟩ := List.getElem_of_mem hx
  rw [h j hj (by omega)]; nofun
theorem find_some {α : Type} {p : α → Bool} : ∀ {l : List α} {i : Nat} (hi : i < l.length) (h : ∀ j (hj : j < l.length), j < i → p l[j] = false) (hp : p l[i] = true), l.find? p = some l[i]
  | [], i, hi, _, _ => by simp at hi
  | a :: l, 0, hi, h, hp => by rw [List.find?_cons, show p a = true from hp]; rfl
  | a :: l, i + 1, hi, h, hp => by
    rw [List.find?_cons, show p a = false from h 0 (by simp) (by omega)]
    exact find_some (l := l) (i := i) (by simpa using hi) (fun j hj hlt => h (j + 1) (by simpa using hj) (by omega)) hp

theorem ct_Or {G : GB} {H : List As} {v : AV} {L : List Int} (hL : Ints (Reads G H) v L) (hl : L.length < 2 ^ 62) : Ct prog n_cmp_Or_int [v] G H (fun v G' H' => v = .int .i64 (orI L) ∧ G = G' ∧ H' = H) := by
  have hln := hL.len
  refine ct_body (fn := f_cmp_Or_int) rfl rfl rfl ?_
  repeat refine wp_seq ?_
  refine wp_ops ?_
  refine s_mv ?_; refine wpi_nil ?_
  repeat refine wp_seq ?_
  refine wp_ops ?_
  refine s_mv ?_; refine wpi_nil ?_
  repeat refine wp_seq ?_
  refine wp_ops ?_
  refine s_mv ?_; refine s_ln ?_; refine s_mv ?_; refine wpi_nil ?_
  repeat refine wp_seq ?_
  refine wp_block ?_
  refine wp_loopX (α := Unit) L.length (fun i _ => [(8, intN i), (7, intN L.length), (6, v), (3, .int .i64 0)]) (fun _ _ => H) (fun i _ => ∀ j (hj : j < L.length), j < i → decide (L[j] ≠ 0) = false) () (fun j _ h => by omega) (by repeat (first | exact SubE.nil | refine SubE.cons rfl ?_)) (by repeat (first | exact HLe.refl | apply HLe.cons | apply HLe.drop)) ?_
  rintro i - hil hok
  repeat refine wp_seq ?_
  refine wp_ops ?_
  refine s_ib ?_; refine wpi_nil ?_
  repeat refine wp_seq ?_
  refine wp_cond rfl (fun h1 => ?_) (fun h1 => ?_)
  · have hlt : i < L.length := by simpa using h1
    obtain ⟨b, o, cap, op, ro, c, rfl, k2, k5⟩ := Ints.at hL hlt
    repeat refine wp_seq ?_
    refine wp_skip ?_
    refine wp_seq ?_
    repeat refine wp_seq ?_
    refine wp_block ?_
    repeat refine wp_seq ?_
    refine wp_ops ?_
    (first | refine s_ix ?_ | refine s_ixi ?_); refine s_ld ?_; refine s_mv ?_; refine wpi_nil ?_
    repeat refine wp_seq ?_
    refine wp_ops ?_
    refine s_mv ?_; refine s_mv ?_; refine s_ib ?_; refine wpi_nil ?_
    repeat refine wp_seq ?_
    refine wp_cond rfl (fun h1 => ?_) (fun h1 => ?_)
    · repeat refine wp_seq ?_
      refine wp_ops ?_
      refine s_mv ?_; refine s_mv ?_; refine wpi_nil ?_
      repeat refine wp_seq ?_
      refine wp_ret ?_
      refine ⟨_, .tmp rfl .nil, _, (by repeat (first | exact HLe.refl | apply HLe.cons | apply HLe.drop)), ?_, rfl, rfl⟩
      rw [orI, find_some hlt hok (by simpa using h1)]; rfl
    · repeat refine wp_seq ?_
      refine wp_skip ?_
      repeat refine wp_seq ?_
      refine wp_ops ?_
      refine s_ad ?_; refine s_mv ?_; refine wpi_nil ?_
      exact ⟨rfl, hlt, (), all_take' (p := fun x : Int => decide (x ≠ 0)) hlt hok (by simpa using h1), by repeat (first | exact SubE.nil | refine SubE.cons rfl ?_), by repeat (first | exact HLe.refl | apply HLe.cons | apply HLe.drop)⟩
  · repeat refine wp_seq ?_
    refine wp_exit ?_
    repeat refine wp_seq ?_
    refine wp_ops ?_
    refine s_mv ?_; refine s_mv ?_; refine wpi_nil ?_
    repeat refine wp_seq ?_
    refine wp_ret ?_
    refine ⟨_, .tmp rfl .nil, _, (by repeat (first | exact HLe.refl | apply HLe.cons | apply HLe.drop)), ?_, rfl, rfl⟩
    rw [orI, find_none (by simpa using h1) hok]; rfl

theorem ct_cmpL {G : GB} {a b : Lane} : Ct prog n_lane_Of_1 [.agg (laneF a), .agg (laneF b)] G [] (fun v G' H' => v = .int .i64 (cmpL a b) ∧ G = G' ∧ H' = []) := by
  refine ct_body (fn := f_lane_Of_1) rfl rfl rfl ?_
  repeat refine wp_seq ?_
  refine wp_ops ?_
  refine s_bx fun b2 => ?_; refine s_bx fun b3 => ?_; refine s_mv ?_; refine wpi_nil ?_
  repeat refine wp_seq ?_
  refine wp_ops ?_
  refine s_fA ?_; refine s_ld ?_; refine s_fA ?_; refine s_ld ?_; refine s_fA ?_; refine s_ld ?_; refine s_fA ?_; refine s_ld ?_; refine s_fA ?_; refine s_ld ?_; refine s_fA ?_
  refine s_ld ?_
  refine wpi_callF rfl (ct_Compare) (by repeat (first | exact HLe.splitNil | (apply HLe.splitCons; focus (repeat (first | exact Take.head | apply Take.tail))))) ?_
  rintro v9 G9 H9 le9 ⟨rfl, rfl, rfl⟩
  try simp only [List.nil_append, List.cons_append]
  refine s_rc ?_; refine s_rc ?_; refine s_rc ?_; refine s_rc ?_
  refine wpi_callF rfl (ct_Compare) (by repeat (first | exact HLe.splitNil | (apply HLe.splitCons; focus (repeat (first | exact Take.head | apply Take.tail))))) ?_
  rintro v14 G14 H14 le14 ⟨rfl, rfl, rfl⟩
  try simp only [List.nil_append, List.cons_append]
  refine s_rc ?_; refine s_rc ?_
  refine wpi_callF rfl (ct_Compare) (by repeat (first | exact HLe.splitNil | (apply HLe.splitCons; focus (repeat (first | exact Take.head | apply Take.tail))))) ?_
  rintro v19 G19 H19 le19 ⟨rfl, rfl, rfl⟩
  try simp only [List.nil_append, List.cons_append]
  refine s_bs fun b20 => ?_
  refine wpi_callH rfl (ct_Or (L := [cmpI a.src b.src, cmpI a.dst b.dst, cmpI a.ahead b.ahead]) (SlL.of (f := fun x : Int => [AV.int .i64 x]) (pt_SlR .head rfl) (fun _ _ => rfl) (fun _ => rfl)) (by show 3 < 2 ^ 62; decide)) ?_
  rintro v21 G21 H21 le21 ⟨rfl, rfl, rfl⟩
  try simp only [List.nil_append, List.cons_append]
  refine s_mv ?_; refine wpi_nil ?_
  repeat refine wp_seq ?_
  refine wp_ret ?_
  refine ⟨_, .tmp rfl .nil, [], HLe.nil, ?_, rfl, rfl⟩
  have e : orI [cmpI a.src b.src, cmpI a.dst b.dst, cmpI a.ahead b.ahead] = cmpL a b := by
    unfold orI cmpL
    by_cases h1 : cmpI a.src b.src = 0 <;> by_cases h2 : cmpI a.dst b.dst = 0 <;> by_cases h3 : cmpI a.ahead b.ahead = 0 <;> simp [List.find?_cons, h1, h2, h3]
  rw [e]; rfl

def sameWay (a b : Lane) : Bool := decide (a.src = b.src) && decide (a.dst = b.dst)
theorem ct_sameWay {G : GB} {a b : Lane} : Ct prog n_lane_Of_2 [.agg (laneF a), .agg (laneF b)] G [] (fun v G' H' => v = .bool (sameWay a b) ∧ G = G' ∧ H' = []) := by
  refine ct_body (fn := f_lane_Of_2) rfl rfl rfl ?_
  repeat refine wp_seq ?_
  refine wp_ops ?_
  refine s_bx fun b2 => ?_; refine s_bx fun b3 => ?_; refine s_mv ?_; refine wpi_nil ?_
  refine wp_seq ?_
  refine wp_ops ?_
  refine s_fA ?_; refine s_ld ?_; refine s_fA ?_; refine s_ld ?_; refine s_ib ?_; refine s_mv ?_
  refine wpi_case 10 rfl (fun h => ?_) (fun h => ?_)
  · first
      | refine s_gn ?_
      | refine s_gy ?_
        refine s_fA ?_
    first
      | refine s_gn ?_
      | refine s_gy ?_
        refine s_ld ?_
    first
      | refine s_gn ?_
      | refine s_gy ?_
        refine s_fA ?_
    first
      | refine s_gn ?_
      | refine s_gy ?_
        refine s_ld ?_
    first
      | refine s_gn ?_
      | refine s_gy ?_
        refine s_ib ?_
    (first | refine s_pt ?_ | refine s_pf ?_ | refine s_pb ?_); refine s_mv ?_; refine wpi_nil ?_
    repeat refine wp_seq ?_
    refine wp_ret ?_
    refine ⟨_, .tmp rfl .nil, [], HLe.nil, ?_, rfl, rfl⟩
    rw [sameWay, decide_eq_true (beq_of h)]
    by_cases h2 : a.dst = b.dst <;> simp [h2, asOne]
  · first
      | refine s_gn ?_
      | refine s_gy ?_
        refine s_fA ?_
    first
      | refine s_gn ?_
      | refine s_gy ?_
        refine s_ld ?_
    first
      | refine s_gn ?_
      | refine s_gy ?_
        refine s_fA ?_
    first
      | refine s_gn ?_
      | refine s_gy ?_
        refine s_ld ?_
    first
      | refine s_gn ?_
      | refine s_gy ?_
        refine s_ib ?_
    (first | refine s_pt ?_ | refine s_pf ?_ | refine s_pb ?_); refine s_mv ?_; refine wpi_nil ?_
    repeat refine wp_seq ?_
    refine wp_ret ?_
    refine ⟨_, .tmp rfl .nil, [], HLe.nil, ?_, rfl, rfl⟩
    rw [sameWay, decide_eq_false (nbeq_of h)]; rfl

