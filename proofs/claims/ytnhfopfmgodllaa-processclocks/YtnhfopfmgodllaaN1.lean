/-
  A part of the proof: contracts of functions of the program, over the abstract machine.
-/
import Derived.Test.YtnhfopfmgodllaaL5
noncomputable section
namespace Go.Sl
open Go Go.Ab Cd
set_option linter.unusedVariables false
set_option linter.unusedSimpArgs false
set_option maxRecDepth 10000

@[reducible] def intV (n : Int) : AV := .int .i64 n
@[reducible] def boolV (b : Bool) : AV := .bool b
def first (n : Net) : List Int := n.places.map (·.tokens)
theorem set_take {α : Type} {l : List α} {z : α} {n i : Nat} (hl : l.length = n) (h : i < n) : (l.take i ++ List.replicate (n - i) z).set i (l[i]'(by omega)) = l.take (i + 1) ++ List.replicate (n - (i + 1)) z := by
  rw [List.set_append_right _ _ (by simp; omega), List.length_take, Nat.min_eq_left (by omega), Nat.sub_self, List.take_succ_eq_append_getElem (by omega), List.append_assoc]
  congr 1
  obtain ⟨m, hm⟩ : ∃ m, n - i = m + 1 := ⟨n - i - 1, by omega⟩
  rw [hm, List.replicate_succ, List.set_cons_zero, show n - (i + 1) = m by omega]; rfl

theorem ct_First {G : GB} {nv : AV} {n : Net} (hN : netR (Gr G) nv n) (hs : n.places.length ≤ 40) :
    Ct prog n_mark_First [nv] G [] (fun v G' H' => G = G' ∧ ∃ b, v = .slc b 0 n.places.length (some n.places.length) ∧ H' = [pt b (.cells none false ((first n).map intV))]) := by
  obtain ⟨nv1, nv2, rfl, hn1, hn2⟩ := hN
  have l1 := hn1.len
  have hfl : (first n).length = n.places.length := by simp [first]
  refine ct_body (fn := f_mark_First) rfl rfl rfl ?_
  repeat refine wp_seq ?_
  refine wp_ops ?_
  refine s_bx fun b1 => ?_; refine s_mv ?_; refine wpi_nil ?_
  repeat refine wp_seq ?_
  refine wp_ops ?_
  refine s_fA ?_; refine s_ld ?_; refine s_ln ?_; refine s_mk fun b9 => ?_; refine s_mv ?_; refine wpi_nil ?_
  have hr0 : repl [AV.int .i64 0] n.places.length = (List.replicate n.places.length 0).map intV := repl_one (f := intV) (x := 0) _
  rw [hr0]
  repeat refine wp_seq ?_
  refine wp_ops ?_
  refine s_fA ?_; refine s_ld ?_; refine s_ln ?_; refine s_mv ?_; refine wpi_nil ?_
  repeat refine wp_seq ?_
  refine wp_block ?_
  refine wp_loopX (α := Unit) n.places.length (fun i _ => [(13, intN i), (12, intN n.places.length), (11, nv1), (3, .slc b9 0 n.places.length (some n.places.length)), (1, .ptr b1 0)]) (fun i _ => [pt b9 (.cells none false (((first n).take i ++ List.replicate (n.places.length - i) 0).map intV))])
    (fun _ _ => True) () trivial (by repeat (first | exact SubE.nil | refine SubE.cons rfl ?_)) (by repeat (first | exact HLe.nil | (apply HLe.take; focus (repeat (first | exact Take.head | apply Take.tail))))) ?_
  rintro i - hil -
  repeat refine wp_seq ?_
  refine wp_ops ?_
  refine s_ib ?_; refine wpi_nil ?_
  repeat refine wp_seq ?_
  refine wp_cond rfl (fun h1 => ?_) (fun h1 => ?_)
  · have hlt : i < n.places.length := by simpa using h1
    clear h1
    obtain ⟨b, o, cap, op', ro, c, y, rfl, k2, k3, k4, k5, k6⟩ := hn1.at hlt
    obtain rfl : y = _ := k3
    have hst : splice (((first n).take i ++ List.replicate (n.places.length - i) 0).map intV) (0 + i * 1) [intV n.places[i].tokens] = some (((first n).take (i + 1) ++ List.replicate (n.places.length - (i + 1)) 0).map intV) := by
      rw [splice_set1 (f := intV) (by simp; omega)]
      have := set_take (z := 0) hfl hlt
      rw [← this]; simp [first]
    repeat refine wp_seq ?_
    refine wp_skip ?_
    refine wp_seq ?_
    repeat refine wp_seq ?_
    refine wp_block ?_
    repeat refine wp_seq ?_
    refine wp_ops ?_
    refine s_mv ?_; (first | refine s_ix ?_ | refine s_ixi ?_); refine s_ld ?_; refine wpi_alloc fun b5 => ?_; refine s_mv ?_; refine s_st ?_; refine wpi_nil ?_
    repeat refine wp_seq ?_
    refine wp_ops ?_
    refine s_mv ?_; refine s_mv ?_; refine s_fA ?_; refine s_ld ?_; (first | refine s_ix ?_ | refine s_ixi ?_); refine s_s1 ?_; refine wpi_nil ?_
    repeat refine wp_seq ?_
    refine wp_ops ?_
    refine s_ad ?_; refine s_mv ?_; refine wpi_nil ?_
    exact ⟨rfl, hlt, (), trivial, by repeat (first | exact SubE.nil | refine SubE.cons rfl ?_), by repeat (first | exact HLe.nil | (apply HLe.take; focus (repeat (first | exact Take.head | apply Take.tail))))⟩
  · have hi : i = n.places.length := by
      have : ¬ (i : Int) < n.places.length := of_decide_eq_false h1
      omega
    subst hi
    repeat refine wp_seq ?_
    refine wp_exit ?_
    repeat refine wp_seq ?_
    refine wp_ops ?_
    refine s_mv ?_; refine s_mv ?_; refine wpi_nil ?_
    repeat refine wp_seq ?_
    refine wp_ret ?_
    refine ⟨_, .tmp rfl .nil, _, HLe.refl, rfl, _, rfl, ?_⟩
    rw [Nat.sub_self, List.replicate_zero, List.append_nil, ← hfl, List.take_length]

theorem Bools.at {D : RD} {v : AV} {l : List Bool} (h : SlL D 1 boolC v l) {i : Nat} (hi : i < l.length) :
    ∃ b o cap op ro c, v = .slc b o l.length cap ∧ D b (.cells op ro c) ∧ Ab.part c (o + i * 1) none = some (.bool l[i]) := by
  obtain ⟨b, o, cap, op, ro, c, x, h1, h2, h3, h4, h5, h6⟩ := SlL.at h hi
  exact ⟨b, o, cap, op, ro, c, h1, h2, by have := h6 0 (.bool l[i]) (by rw [h3]; rfl); simpa using this⟩

def has (l : List Bool) (i : Nat) : Bool := l.getD i false
theorem ct_has {G : GB} {v : AV} {l : List Bool} {i : Nat} (hl : SlL (Gr G) 1 boolC v l) : Ct prog n_swift_has [v, intN i] G [] (fun v G' H' => v = .bool (has l i) ∧ G = G' ∧ H' = []) := by
  have l1 := hl.len
  refine ct_body (fn := f_swift_has) rfl rfl rfl ?_
  repeat refine wp_seq ?_
  refine wp_ops ?_
  refine s_mv ?_; refine wpi_nil ?_
  refine wp_seq ?_
  refine wp_ops ?_
  refine s_mv ?_; refine s_mv ?_; refine s_ln ?_; refine s_ib ?_; refine s_mv ?_
  refine wpi_case 9 rfl (fun h => ?_) (fun h => ?_)
  · have hlt : i < l.length := by simpa using h
    obtain ⟨b, o, cap, op, ro, c, rfl, k2, k5⟩ := Bools.at hl hlt
    first
      | refine s_gn ?_
      | refine s_gy ?_
        refine s_mv ?_
    first
      | refine s_gn ?_
      | refine s_gy ?_
        refine s_mv ?_
    first
      | refine s_gn ?_
      | refine s_gy ?_
        first | refine s_ix ?_ | refine s_ixi ?_
    first
      | refine s_gn ?_
      | refine s_gy ?_
        refine s_ld ?_
    (first | refine s_pt ?_ | refine s_pf ?_ | refine s_pb ?_); refine s_mv ?_; refine wpi_nil ?_
    repeat refine wp_seq ?_
    refine wp_ret ?_
    refine ⟨_, .tmp rfl .nil, [], HLe.nil, ?_, rfl, rfl⟩
    rw [has, getD_lt hlt]; rfl
  · have hlt : ¬ i < l.length := by simpa using h
    first
      | refine s_gn ?_
      | refine s_gy ?_
        refine s_mv ?_
    first
      | refine s_gn ?_
      | refine s_gy ?_
        refine s_mv ?_
    first
      | refine s_gn ?_
      | refine s_gy ?_
        first | refine s_ix ?_ | refine s_ixi ?_
    first
      | refine s_gn ?_
      | refine s_gy ?_
        refine s_ld ?_
    (first | refine s_pt ?_ | refine s_pf ?_ | refine s_pb ?_); refine s_mv ?_; refine wpi_nil ?_
    repeat refine wp_seq ?_
    refine wp_ret ?_
    refine ⟨_, .tmp rfl .nil, [], HLe.nil, ?_, rfl, rfl⟩
    rw [has, getD_ge (by omega)]; rfl

/-! ### Rows that are ours -/
def rowA (x : AV × List Nat) : As := slA 1 x.1 x.2.length (x.2.flatMap natF)
def rows (l : List (AV × List Nat)) : As := star (l.map rowA)
theorem take_map {l : List (AV × List Nat)} : ∀ {i : Nat} (h : i < l.length), Take (rowA l[i]) (l.map rowA) ((l.eraseIdx i).map rowA) := by
  induction l with
  | nil => intro i h; simp at h
  | cons a l ih =>
    intro i h
    cases i with
    | zero => exact .head
    | succ i => exact .tail (ih (by simpa using h))
theorem take_map_set {l : List (AV × List Nat)} {x : AV × List Nat} : ∀ {i : Nat} (h : i < l.length), Take (rowA x) ((l.set i x).map rowA) ((l.eraseIdx i).map rowA) := by
  induction l with
  | nil => intro i h; simp at h
  | cons a l ih =>
    intro i h
    cases i with
    | zero => exact .head
    | succ i => exact .tail (ih (by simpa using h))
theorem Take.app {P : As} {H H2 R : List As} (t : Take P H H2) : Take P (H ++ R) (H2 ++ R) := by
  induction t with
  | head => exact .head
  | tail _ ih => exact .tail ih
theorem rows_take {G : GB} {H : List As} {l : List (AV × List Nat)} {i : Nat} (h : i < l.length) : HLe G (rows l :: H) (rowA l[i] :: rows (l.eraseIdx i) :: H) := fun S F p =>
  hp_cons_mono (fun F' q => hp_starI q) (hp_take (take_map h).app (hp_star p))
theorem rows_put {G : GB} {H : List As} {l : List (AV × List Nat)} {i : Nat} {x : AV × List Nat} (h : i < l.length) : HLe G (rowA x :: rows (l.eraseIdx i) :: H) (rows (l.set i x) :: H) := fun S F p =>
  hp_starI (hp_untake (take_map_set h).app (hp_cons_mono (fun F' q => hp_star q) p))
theorem rows_nil {G : GB} {H : List As} : HLe G H (rows [] :: H) := fun S F p => hp_starI p
theorem rows_new {G : GB} {H : List As} (n : Nat) : HLe G H (rows (List.replicate n (.nils, [])) :: H) := fun S F p => by
  refine hp_starI ?_
  induction n with
  | zero => exact p
  | succ n ih => exact hp_slA_nil ih
/-- Rows are laid for good. -/
theorem rows_freeze {S : St} {F : As} {H : List As} : ∀ {l : List (AV × List Nat)} {G : GB}, Hp G S F (rows l :: H) → ∃ G', GLe G G' ∧ All2 (rowC (Gr G')) (l.map (·.2)) (l.map fun x => [x.1]) ∧ Hp G' S F H
  | [], G, p => ⟨G, GLe.refl _, .nil, hp_star p⟩
  | x :: l, G, p => by
    have p1 : Hp G S F (rowA x :: (l.map rowA ++ H)) := hp_star p
    obtain ⟨G1, le1, r1, p2⟩ := freezeS_ .head p1
    obtain ⟨G2, le2, r2, p3⟩ := rows_freeze (l := l) (hp_starI p2)
    refine ⟨G2, le1.trans le2, .cons ⟨x.1, rfl, ?_⟩ r2, p3⟩
    exact SlL.of (f := natF) (r1.mono (Gr.le le2)) (fun _ _ => rfl) (fun _ => rfl)
theorem Wp.rows {AP : AProg} {G : GB} {E : Env} {H : List As} {Q : AEx → GB → Env → List As → Prop} {c} {H2 : List As} {l : List (AV × List Nat)} (t : Take (rows l) H H2) (k : ∀ G', GLe G G' → All2 (rowC (Gr G')) (l.map (·.2)) (l.map fun x => [x.1]) → Wp AP G' c E H2 Q) : Wp AP G c E H Q := fun F S fr p f => by
  obtain ⟨G', le, r, q⟩ := rows_freeze (hp_take t p)
  obtain ⟨n, e, fr', S', h1, G2, E', H', h2, h3, h4, h5⟩ := k G' le r F S fr q f
  exact ⟨n, e, fr', S', h1, G2, E', H', h2, h3, h4, le.trans h5⟩

