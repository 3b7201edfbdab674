/-
  A part of the proof: contracts of functions of the program, over the abstract machine.
-/
import Derived.Test.YtnhfopfmgodllaaMk
noncomputable section
namespace Go.Sl
open Go Go.Ab Cd
set_option linter.unusedVariables false
set_option linter.unusedSimpArgs false
set_option maxRecDepth 10000

/-! ### Drafts -/
structure Act where
  d : Nat
  p : Nat
  i : Nat
  j : Nat
  n : Nat
  o : Nat
  q : Nat
  deriving Inhabited
structure Draft where
  tokens : List Nat
  acts : List Act
def byteC (n : Nat) (c : List AV) : Prop := c = [.int .u8 n]
def actC (a : Act) (c : List AV) : Prop := c = [.int .u8 a.d, .int .u8 a.p, .int .u8 a.i, .int .u8 a.j, .int .u8 a.n, .int .u8 a.o, .int .u8 a.q]
def Act.ok (a : Act) : Prop := a.d < 256 ∧ a.p < 256 ∧ a.i < 256 ∧ a.j < 256 ∧ a.n < 256 ∧ a.o < 256 ∧ a.q < 256
def draftR (D : RD) (v : AV) (d : Draft) : Prop := ∃ a b, v = .agg [a, b] ∧ SlL D 1 byteC a d.tokens ∧ SlL D 7 actC b d.acts ∧ (∀ n ∈ d.tokens, n < 256) ∧ ∀ a ∈ d.acts, a.ok
def few (d : Draft) : Bool := decide (d.tokens.length ≤ 60) && decide (d.acts.length ≤ 12)

theorem ct_few {G : GB} {dv : AV} {d : Draft} (hd : draftR (Gr G) dv d) : Ct prog n_law19_few [dv] G [] (fun v G' H' => v = .bool (few d) ∧ G = G' ∧ H' = []) := by
  obtain ⟨tv, av, rfl, ht, ha, _, _⟩ := hd
  refine ct_body (fn := f_law19_few) rfl rfl rfl ?_
  repeat refine wp_seq ?_
  refine wp_ops ?_
  refine s_bx fun b1 => ?_; refine s_mv ?_; refine wpi_nil ?_
  refine wp_seqO ?_
  refine s_fA ?_; refine s_ld ?_; refine s_ln ?_; refine s_ib ?_; refine s_mv ?_
  refine wpi_case 7 rfl (fun h => ?_) (fun h => ?_)
  · first
      | refine s_gn ?_
      | refine s_gy ?_
        refine s_fA ?_
    first
      | refine s_gn ?_
      | refine s_gy ?_
        refine s_ld ?_
    first
      | refine s_gn ?_
      | refine s_gy ?_
        refine s_ln ?_
    first
      | refine s_gn ?_
      | refine s_gy ?_
        refine s_ib ?_
    (first | refine s_pt ?_ | refine s_pf ?_ | refine s_pb ?_); refine s_mv ?_; refine wpi_nil ?_
    repeat refine wp_seq ?_
    refine wp_ret ?_
    refine ⟨_, .tmp rfl .nil, [], (by repeat (first | exact HLe.refl | apply HLe.cons | apply HLe.drop)), ?_, rfl, rfl⟩
    have h' : d.tokens.length ≤ 60 := by have := of_decide_eq_true h; omega
    have e : decide ((d.acts.length : Int) ≤ 12) = decide (d.acts.length ≤ 12) := decide_eq_decide.2 (by omega)
    simp [few, h', asOne, e]
  · first
      | refine s_gn ?_
      | refine s_gy ?_
        refine s_fA ?_
    first
      | refine s_gn ?_
      | refine s_gy ?_
        refine s_ld ?_
    first
      | refine s_gn ?_
      | refine s_gy ?_
        refine s_ln ?_
    first
      | refine s_gn ?_
      | refine s_gy ?_
        refine s_ib ?_
    (first | refine s_pt ?_ | refine s_pf ?_ | refine s_pb ?_); refine s_mv ?_; refine wpi_nil ?_
    repeat refine wp_seq ?_
    refine wp_ret ?_
    refine ⟨_, .tmp rfl .nil, [], (by repeat (first | exact HLe.refl | apply HLe.cons | apply HLe.drop)), ?_, rfl, rfl⟩
    have h' : ¬ d.tokens.length ≤ 60 := by have := of_decide_eq_false h; omega
    simp [few, h', asOne]

/-! ### put -/
def arcF (a : Arc) : List AV := [.int .i64 a.place, .int .i64 a.n]
def putArc (l : List Arc) (p n : Int) : List Arc := if l.any (fun a => decide (a.place = p)) then l else l ++ [⟨p, n⟩]
theorem any_false {α : Type} {l : List α} {p : α → Bool} {i : Nat} (hi : ¬ i < l.length) (h : ∀ j (hj : j < l.length), j < i → p l[j] = false) : l.any p = false := by
  rw [Bool.eq_false_iff]; intro h2
  obtain ⟨x, hx, e⟩ := List.any_eq_true.1 h2
  obtain ⟨j, hj, rfl⟩ := List.getElem_of_mem hx
  rw [h j hj (by omega)] at e; cases e
theorem any_true {α : Type} {l : List α} {p : α → Bool} {i : Nat} (hi : i < l.length) (h : p l[i] = true) : l.any p = true := List.any_eq_true.2 ⟨_, List.getElem_mem hi, h⟩
theorem upto {p : Nat → Prop} {i : Nat} {n : Nat} (h : ∀ j, j < n → j < i → p j) (hi : p i) : ∀ j, j < n → j < i + 1 → p j := fun j hj hlt => by
  by_cases e : j = i
  · subst e; exact hi
  · exact h j hj (by omega)

theorem ct_put {G : GB} {v : AV} {l : List Arc} {p n : Int} (hl : l.length < 1000) : Ct prog n_ref05_put [v, .int .i64 p, .int .i64 n] G [slA 2 v l.length (l.flatMap arcF)]
    (fun v' G' H' => G = G' ∧ H' = [slA 2 v' (putArc l p n).length ((putArc l p n).flatMap arcF)]) := by
  refine ct_body (fn := f_ref05_put) rfl rfl rfl ?_
  refine Wp.fact (fun S F p => slA_form .head p) fun hf => ?_
  have hr : Arcs (Reads G [slA 2 v l.length (l.flatMap arcF)]) v l := SlL.of (slA_SlR .head hf) (fun _ _ => rfl) (fun _ => rfl)
  repeat refine wp_seq ?_
  refine wp_ops ?_
  refine s_mv ?_; refine wpi_nil ?_
  repeat refine wp_seq ?_
  refine wp_ops ?_
  refine s_mv ?_; refine wpi_nil ?_
  repeat refine wp_seq ?_
  refine wp_block ?_
  refine wp_loopP (fun m E' H' => ∃ i : Nat, i ≤ l.length ∧ m = l.length - i ∧ (∀ j (hj : j < l.length), j < i → decide (l[j].place = p) = false) ∧
    E' = [(7, .int .i64 i), (0, v), (1, .int .i64 p), (2, .int .i64 n)] ∧ H' = [slA 2 v l.length (l.flatMap arcF)]) ?_ l.length
    (by repeat (first | exact SubE.nil | refine SubE.cons rfl ?_)) (by repeat (first | exact HLe.refl | apply HLe.cons | apply HLe.drop)) ⟨0, by omega, by omega, fun j _ h => by omega, rfl, rfl⟩
  rintro m E' H' ⟨i, hil, rfl, hok, rfl, rfl⟩
  repeat refine wp_seq ?_
  refine wp_ops ?_
  refine s_mv ?_; refine s_mv ?_; refine s_ln ?_; refine s_ib ?_; refine wpi_nil ?_
  repeat refine wp_seq ?_
  refine wp_cond rfl (fun h1 => ?_) (fun h1 => ?_)
  · have hlt : i < l.length := by simpa using h1
    obtain ⟨b, o, cap, op, ro, c, x, rfl, k2, k3, k4, k5, k6⟩ := hr.at hlt
    obtain rfl : x = _ := k3
    repeat refine wp_seq ?_
    refine wp_skip ?_
    repeat refine wp_seq ?_
    refine wp_block ?_
    have k7 := k6 0 _ rfl
    repeat refine wp_seq ?_
    refine wp_ops ?_
    refine s_mv ?_; refine s_mv ?_; (first | refine s_ix ?_ | refine s_ixi ?_); refine s_fA ?_; refine s_ld ?_; refine s_mv ?_; refine s_ib ?_; refine wpi_nil ?_
    repeat refine wp_seq ?_
    refine wp_cond rfl (fun h1 => ?_) (fun h1 => ?_)
    · repeat refine wp_seq ?_
      refine wp_ops ?_
      refine s_mv ?_; refine s_mv ?_; refine wpi_nil ?_
      repeat refine wp_seq ?_
      refine wp_ret ?_
      refine ⟨_, .tmp rfl .nil, _, (by repeat (first | exact HLe.refl | apply HLe.cons | apply HLe.drop)), rfl, ?_⟩
      rw [putArc, if_pos (any_true hlt h1)]
      rfl
    · repeat refine wp_seq ?_
      refine wp_skip ?_
      repeat refine wp_seq ?_
      refine wp_ops ?_
      refine s_mv ?_; refine s_ad ?_; refine s_mv ?_; refine wpi_nil ?_
      refine ⟨rfl, _, ?_, _, _, ?_, ?_, i + 1, hlt, rfl, all_take' (p := fun a : Arc => decide (a.place = p)) hlt hok h1, rfl, rfl⟩
      · omega
      · repeat (first | exact SubE.nil | refine SubE.cons rfl ?_)
      · repeat (first | exact HLe.refl | apply HLe.cons | apply HLe.drop)
  · have hin := any_false (p := fun a : Arc => decide (a.place = p)) (by simpa using h1) hok
    repeat refine wp_seq ?_
    refine wp_exit ?_
    have hfc := hf.clen
    repeat refine wp_seq ?_
    refine wp_ops ?_
    refine s_mv ?_; refine s_mv ?_; refine s_mv ?_; refine s_bu ?_; refine s_bs fun b26 => ?_; refine s_ap fun v27 f27 => ?_; refine s_mv ?_; refine wpi_nil ?_
    repeat refine wp_seq ?_
    refine wp_ret ?_
    refine ⟨_, .tmp rfl .nil, [slA 2 v27 (l.length + 1) _], (by repeat (first | exact HLe.refl | apply HLe.cons | apply HLe.drop)), rfl, ?_⟩
    rw [putArc, if_neg (by rw [hin]; nofun)]
    simp [arcF, asOne, AV.cells]

