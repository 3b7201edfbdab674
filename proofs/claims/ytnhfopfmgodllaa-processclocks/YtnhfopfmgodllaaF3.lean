/-
  A part of the proof: contracts of functions of the program, over the abstract machine.
-/
import Derived.Test.YtnhfopfmgodllaaF2
noncomputable section
namespace Go.Sl
open Go Go.Ab Cd
set_option linter.unusedVariables false
set_option linter.unusedSimpArgs false
set_option maxRecDepth 10000

def looks (t : Trans) (p : Int) : Bool := t.ins.any (fun a => decide (a.place = p)) || t.nots.any (fun a => decide (a.place = p))
def gives (t : Trans) (p : Int) : Bool := t.outs.any (fun a => decide (a.place = p))

theorem ct_Gives {G : GB} {t : Trans} {tc : List AV} {p : Int} (hT : transC (Gr G) t tc) (hl : t.outs.length < 2 ^ 62) :
    Ct prog n_ref14_Gives [.agg tc, .int .i64 p] G [] (fun v G' H' => v = .bool (gives t p) ∧ G = G' ∧ H' = []) := by
  obtain ⟨iv, nv, ov, rfl, hi, hn, ho⟩ := hT
  refine ct_body (fn := f_ref14_Gives) rfl rfl rfl ?_
  repeat refine wp_seq ?_
  refine wp_ops ?_
  refine s_bx fun b2 => ?_; refine s_mv ?_; refine wpi_nil ?_
  repeat refine wp_seq ?_
  refine wp_ops ?_
  refine s_mv ?_; refine wpi_nil ?_
  repeat refine wp_seq ?_
  refine wp_block ?_
  refine wp_loopX (α := Unit) t.outs.length (fun i _ => [(5, .int .i64 i), (2, .ptr b2 0), (1, .int .i64 p)]) (fun _ _ => [pt b2 (.cells none false [.str t.name, .int .i64 t.delay, .int .i64 t.prio, iv, nv, ov])])
    (fun i _ => ∀ j (hj : j < t.outs.length), j < i → decide (t.outs[j].place = p) = false) () (fun j _ h => by omega) (by repeat (first | exact SubE.nil | refine SubE.cons rfl ?_)) (by repeat (first | exact HLe.refl | apply HLe.cons | apply HLe.drop)) ?_
  rintro i - hil hok
  repeat refine wp_seq ?_
  refine wp_ops ?_
  refine s_mv ?_; refine s_fA ?_; refine s_ld ?_; refine s_ln ?_; refine s_ib ?_; refine wpi_nil ?_
  repeat refine wp_seq ?_
  refine wp_cond rfl (fun h1 => ?_) (fun h1 => ?_)
  · have hlt : i < t.outs.length := by simpa using h1
    obtain ⟨b, o, cap, op, ro, c, x, rfl, k2, k3, k4, k5, k6⟩ := ho.at hlt
    obtain rfl : x = _ := k3
    have k7 := k6 0 _ rfl
    repeat refine wp_seq ?_
    refine wp_skip ?_
    repeat refine wp_seq ?_
    refine wp_block ?_
    repeat refine wp_seq ?_
    refine wp_ops ?_
    refine s_fA ?_; refine s_ld ?_; refine s_mv ?_; (first | refine s_ix ?_ | refine s_ixi ?_); refine s_fA ?_; refine s_ld ?_; refine s_mv ?_; refine s_ib ?_; refine wpi_nil ?_
    repeat refine wp_seq ?_
    refine wp_cond rfl (fun h1 => ?_) (fun h1 => ?_)
    · repeat refine wp_seq ?_
      refine wp_ops ?_
      refine s_mv ?_; refine wpi_nil ?_
      repeat refine wp_seq ?_
      refine wp_ret ?_
      refine ⟨_, .tmp rfl .nil, [], (by repeat (first | exact HLe.refl | apply HLe.cons | apply HLe.drop)), ?_, rfl, rfl⟩
      rw [gives, any_true hlt h1]; rfl
    · repeat refine wp_seq ?_
      refine wp_skip ?_
      repeat refine wp_seq ?_
      refine wp_ops ?_
      refine s_mv ?_; refine s_ad ?_; refine s_mv ?_; refine wpi_nil ?_
      exact ⟨rfl, hlt, (), all_take' (p := fun a : Arc => decide (a.place = p)) hlt hok h1, by repeat (first | exact SubE.nil | refine SubE.cons rfl ?_), by repeat (first | exact HLe.refl | apply HLe.cons | apply HLe.drop)⟩
  · have hin := any_false (p := fun a : Arc => decide (a.place = p)) (by simpa using h1) hok
    repeat refine wp_seq ?_
    refine wp_exit ?_
    repeat refine wp_seq ?_
    refine wp_ops ?_
    refine s_mv ?_; refine wpi_nil ?_
    repeat refine wp_seq ?_
    refine wp_ret ?_
    refine ⟨_, .tmp rfl .nil, [], (by repeat (first | exact HLe.refl | apply HLe.cons | apply HLe.drop)), ?_, rfl, rfl⟩
    rw [gives, hin]; rfl

theorem ct_Looks {G : GB} {t : Trans} {tc : List AV} {p : Int} (hT : transC (Gr G) t tc) (hl : t.ins.length < 2 ^ 62) (hl2 : t.nots.length < 2 ^ 62) :
    Ct prog n_ref14_Looks [.agg tc, .int .i64 p] G [] (fun v G' H' => v = .bool (looks t p) ∧ G = G' ∧ H' = []) := by
  obtain ⟨iv, nv, ov, rfl, hi, hn, ho⟩ := hT
  refine ct_body (fn := f_ref14_Looks) rfl rfl rfl ?_
  repeat refine wp_seq ?_
  refine wp_ops ?_
  refine s_bx fun b2 => ?_; refine s_mv ?_; refine wpi_nil ?_
  repeat refine wp_seq ?_
  refine wp_ops ?_
  refine s_mv ?_; refine wpi_nil ?_
  repeat refine wp_seq ?_
  refine wp_block ?_
  refine wp_loopX (α := Unit) t.ins.length (fun i _ => [(5, .int .i64 i), (2, .ptr b2 0), (1, .int .i64 p)]) (fun _ _ => [pt b2 (.cells none false [.str t.name, .int .i64 t.delay, .int .i64 t.prio, iv, nv, ov])])
    (fun i _ => ∀ j (hj : j < t.ins.length), j < i → decide (t.ins[j].place = p) = false) () (fun j _ h => by omega) (by repeat (first | exact SubE.nil | refine SubE.cons rfl ?_)) (by repeat (first | exact HLe.refl | apply HLe.cons | apply HLe.drop)) ?_
  rintro i - hil hok
  have hil' := hi.len
  repeat refine wp_seq ?_
  refine wp_ops ?_
  refine s_mv ?_; refine s_fA ?_; refine s_ld ?_; refine s_ln ?_; refine s_ib ?_; refine wpi_nil ?_
  repeat refine wp_seq ?_
  refine wp_cond rfl (fun h1 => ?_) (fun h1 => ?_)
  · have hlt : i < t.ins.length := by simpa using h1
    clear hil'
    obtain ⟨b, o, cap, op, ro, c, x, rfl, k2, k3, k4, k5, k6⟩ := hi.at hlt
    obtain rfl : x = _ := k3
    have k7 := k6 0 _ rfl
    repeat refine wp_seq ?_
    refine wp_skip ?_
    repeat refine wp_seq ?_
    refine wp_block ?_
    repeat refine wp_seq ?_
    refine wp_ops ?_
    refine s_fA ?_; refine s_ld ?_; refine s_mv ?_; (first | refine s_ix ?_ | refine s_ixi ?_); refine s_fA ?_; refine s_ld ?_; refine s_mv ?_; refine s_ib ?_; refine wpi_nil ?_
    repeat refine wp_seq ?_
    refine wp_cond rfl (fun h1 => ?_) (fun h1 => ?_)
    · repeat refine wp_seq ?_
      refine wp_ops ?_
      refine s_mv ?_; refine wpi_nil ?_
      repeat refine wp_seq ?_
      refine wp_ret ?_
      refine ⟨_, .tmp rfl .nil, [], (by repeat (first | exact HLe.refl | apply HLe.cons | apply HLe.drop)), ?_, rfl, rfl⟩
      rw [looks, any_true hlt h1]; rfl
    · repeat refine wp_seq ?_
      refine wp_skip ?_
      repeat refine wp_seq ?_
      refine wp_ops ?_
      refine s_mv ?_; refine s_ad ?_; refine s_mv ?_; refine wpi_nil ?_
      exact ⟨rfl, hlt, (), all_take' (p := fun a : Arc => decide (a.place = p)) hlt hok h1, by repeat (first | exact SubE.nil | refine SubE.cons rfl ?_), by repeat (first | exact HLe.refl | apply HLe.cons | apply HLe.drop)⟩
  · have hin1 := any_false (p := fun a : Arc => decide (a.place = p)) (by simpa using h1) hok
    clear hok h1 hil'
    repeat refine wp_seq ?_
    refine wp_exit ?_
    repeat refine wp_seq ?_
    refine wp_ops ?_
    refine s_mv ?_; refine wpi_nil ?_
    repeat refine wp_seq ?_
    refine wp_block ?_
    refine wp_loopX (α := Unit) t.nots.length (fun i _ => [(6, .int .i64 i), (2, .ptr b2 0), (1, .int .i64 p)]) (fun _ _ => [pt b2 (.cells none false [.str t.name, .int .i64 t.delay, .int .i64 t.prio, iv, nv, ov])])
      (fun i _ => ∀ j (hj : j < t.nots.length), j < i → decide (t.nots[j].place = p) = false) () (fun j _ h => by omega) (by repeat (first | exact SubE.nil | refine SubE.cons rfl ?_)) (by repeat (first | exact HLe.refl | apply HLe.cons | apply HLe.drop)) ?_
    rintro i - hil hok
    have hnl := hn.len
    repeat refine wp_seq ?_
    refine wp_ops ?_
    refine s_mv ?_; refine s_fA ?_; refine s_ld ?_; refine s_ln ?_; refine s_ib ?_; refine wpi_nil ?_
    repeat refine wp_seq ?_
    refine wp_cond rfl (fun h1 => ?_) (fun h1 => ?_)
    · have hlt : i < t.nots.length := by simpa using h1
      clear hnl
      obtain ⟨b, o, cap, op, ro, c, x, rfl, k2, k3, k4, k5, k6⟩ := hn.at hlt
      obtain rfl : x = _ := k3
      have k7 := k6 0 _ rfl
      repeat refine wp_seq ?_
      refine wp_skip ?_
      repeat refine wp_seq ?_
      refine wp_block ?_
      repeat refine wp_seq ?_
      refine wp_ops ?_
      refine s_fA ?_; refine s_ld ?_; refine s_mv ?_; (first | refine s_ix ?_ | refine s_ixi ?_); refine s_fA ?_; refine s_ld ?_; refine s_mv ?_; refine s_ib ?_; refine wpi_nil ?_
      repeat refine wp_seq ?_
      refine wp_cond rfl (fun h1 => ?_) (fun h1 => ?_)
      · repeat refine wp_seq ?_
        refine wp_ops ?_
        refine s_mv ?_; refine wpi_nil ?_
        repeat refine wp_seq ?_
        refine wp_ret ?_
        refine ⟨_, .tmp rfl .nil, [], (by repeat (first | exact HLe.refl | apply HLe.cons | apply HLe.drop)), ?_, rfl, rfl⟩
        rw [looks, hin1, any_true hlt h1]; rfl
      · repeat refine wp_seq ?_
        refine wp_skip ?_
        repeat refine wp_seq ?_
        refine wp_ops ?_
        refine s_mv ?_; refine s_ad ?_; refine s_mv ?_; refine wpi_nil ?_
        exact ⟨rfl, hlt, (), all_take' (p := fun a : Arc => decide (a.place = p)) hlt hok h1, by repeat (first | exact SubE.nil | refine SubE.cons rfl ?_), by repeat (first | exact HLe.refl | apply HLe.cons | apply HLe.drop)⟩
    · have hin := any_false (p := fun a : Arc => decide (a.place = p)) (by simpa using h1) hok
      repeat refine wp_seq ?_
      refine wp_exit ?_
      repeat refine wp_seq ?_
      refine wp_ops ?_
      refine s_mv ?_; refine wpi_nil ?_
      repeat refine wp_seq ?_
      refine wp_ret ?_
      refine ⟨_, .tmp rfl .nil, [], (by repeat (first | exact HLe.refl | apply HLe.cons | apply HLe.drop)), ?_, rfl, rfl⟩
      rw [looks, hin1, hin]; rfl

/-! ### Blocks of integers that are written -/
theorem splice_set {α : Type} {f : α → AV} : ∀ {l : List α} {i : Nat} {x : α}, i < l.length → splice (l.map f) i [f x] = some ((l.set i x).map f)
  | [], i, x, h => by simp at h
  | a :: l, 0, x, h => by
    have e : splice (l.map f) 0 [] = some (l.map f) := by cases l <;> rfl
    simp only [List.map_cons, splice, e, List.set_cons_zero]
  | a :: l, i + 1, x, h => by simp only [List.map_cons, splice, splice_set (l := l) (i := i) (x := x) (by simpa using h), List.set_cons_succ]
theorem splice_set1 {α : Type} {f : α → AV} {l : List α} {i : Nat} {x : α} (h : i < l.length) : splice (l.map f) (0 + i * 1) [f x] = some ((l.set i x).map f) := by
  rw [Nat.zero_add, Nat.mul_one]; exact splice_set h
theorem part_map1 {α : Type} {f : α → AV} {l : List α} {i : Nat} (h : i < l.length) : Ab.part (l.map f) (0 + i * 1) none = some (f l[i]) := by
  rw [Nat.zero_add, Nat.mul_one]; show (l.map f)[i]? = _; simp [h]
theorem repl_one {α : Type} {f : α → AV} {x : α} : ∀ n, repl [f x] n = (List.replicate n x).map f
  | 0 => rfl
  | n + 1 => by simp only [repl, repl_one n, List.replicate_succ, List.map_cons]; rfl

