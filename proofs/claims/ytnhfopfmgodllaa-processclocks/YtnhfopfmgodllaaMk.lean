/-
  A part of the proof: contracts of functions of the program, over the abstract machine.
-/
import Derived.Test.YtnhfopfmgodllaaSlAuto
import Derived.Test.YtnhfopfmgodllaaCdC
noncomputable section
namespace Go.Sl
open Go Go.Ab Cd
set_option linter.unusedVariables false
set_option linter.unusedSimpArgs false
set_option maxRecDepth 10000
/-- What the examples of the laws come to: true, beside any state. -/
def awakeP : List AV → St → Option (AV × St) := fun vs S => match vs with
  | [] => some (.bool true, S)
  | _ => none
def prims : Tr (List AV → St → Option (AV × St)) := (Tr.put .nil n_law19_awake (some awakeP)).put n_law20_awake (some awakeP)
def prog : AProg := ⟨funcs, methods, prims⟩
theorem ct_awake19 {G : GB} {H : List As} : Ct prog n_law19_awake [] G H (fun v G' H' => v = .bool true ∧ G = G' ∧ H' = H) := fun F S p => ⟨0, _, S, rfl, G, H, ⟨rfl, rfl, rfl⟩, p, GLe.refl _⟩
theorem ct_awake20 {G : GB} {H : List As} : Ct prog n_law20_awake [] G H (fun v G' H' => v = .bool true ∧ G = G' ∧ H' = H) := fun F S p => ⟨0, _, S, rfl, G, H, ⟨rfl, rfl, rfl⟩, p, GLe.refl _⟩

def ati (ms : List Int) (p : Int) : Int := ms.getD p.toNat 0
def inOk (ms : List Int) (a : Arc) : Bool := decide (a.n ≤ ati ms a.place)
def notOk (ms : List Int) (a : Arc) : Bool := decide (ati ms a.place < a.n)
def may (t : Trans) (ms : List Int) : Bool := t.ins.all (inOk ms) && t.nots.all (notOk ms)
theorem getD_lt {α : Type} {l : List α} {i : Nat} {a : α} (h : i < l.length) : l.getD i a = l[i] := by simp [h]
theorem getD_ge {α : Type} {l : List α} {i : Nat} {a : α} (h : l.length ≤ i) : l.getD i a = a := by simp [h]
theorem ne_of {a b : Int} (h : (a != b) = true) : a ≠ b := by simpa using h
theorem eq_of {a b : Int} (h : (a != b) = false) : a = b := by simpa using h
theorem beq_of {a b : Int} (h : (a == b) = true) : a = b := by simpa using h
theorem nbeq_of {a b : Int} (h : (a == b) = false) : a ≠ b := by simpa using h
theorem Ints.at {D : RD} {v : AV} {l : List Int} (h : Ints D v l) {i : Nat} (hi : i < l.length) :
    ∃ b o cap op ro c, v = .slc b o l.length cap ∧ D b (.cells op ro c) ∧ Ab.part c (o + i * 1) none = some (.int .i64 l[i]) := by
  obtain ⟨b, o, cap, op, ro, c, x, h1, h2, h3, h4, h5, h6⟩ := SlL.at h hi
  exact ⟨b, o, cap, op, ro, c, h1, h2, by have := h6 0 (.int .i64 l[i]) (by rw [h3]; rfl); simpa using this⟩
theorem Arcs.at' {D : RD} {v : AV} {l : List Arc} (h : Arcs D v l) {i : Nat} (hi : i < l.length) :
    ∃ b o cap op ro c, v = .slc b o l.length cap ∧ D b (.cells op ro c) ∧ Ab.part c (o + i * 2) (some 2) = some (.agg [.int .i64 l[i].place, .int .i64 l[i].n]) := by
  obtain ⟨b, o, cap, op, ro, c, x, h1, h2, h3, h4, h5, h6⟩ := SlL.at h hi
  exact ⟨b, o, cap, op, ro, c, h1, h2, by rw [h5, h3]⟩
theorem all_false {α : Type} {l : List α} {p : α → Bool} {i : Nat} (hi : i < l.length) (h : p l[i] = false) : l.all p = false := by
  rw [Bool.eq_false_iff]; intro h2
  rw [List.all_eq_true] at h2
  rw [h2 _ (List.getElem_mem hi)] at h; cases h
theorem all_take {α : Type} {l : List α} {p : α → Bool} {i : Nat} (hi : i < l.length) (h : ∀ j (hj : j < l.length), j < i → p l[j] = true) (h2 : p l[i] = true) : ∀ j (hj : j < l.length), j < i + 1 → p l[j] = true := fun j hj hlt => by
  by_cases e : j = i
  · subst e; exact h2
  · exact h j hj (by omega)
theorem all_take' {α : Type} {l : List α} {p : α → Bool} {i : Nat} (hi : i < l.length) (h : ∀ j (hj : j < l.length), j < i → p l[j] = false) (h2 : p l[i] = false) : ∀ j (hj : j < l.length), j < i + 1 → p l[j] = false := fun j hj hlt => by
  by_cases e : j = i
  · subst e; exact h2
  · exact h j hj (by omega)
theorem all_done {α : Type} {l : List α} {p : α → Bool} {i : Nat} (hi : ¬ i < l.length) (h : ∀ j (hj : j < l.length), j < i → p l[j] = true) : l.all p = true := by
  rw [List.all_eq_true]; intro x hx
  obtain ⟨j, hj, rfl⟩ := List.getElem_of_mem hx
  exact h j hj (by omega)

theorem ct_mark_May {G : GB} {H : List As} {t : Trans} {tc : List AV} {mv : AV} {ms : List Int} (hT : transC (Gr G) t tc) (hm : Ints (Reads G H) mv ms) (hin : ∀ a ∈ t.ins ++ t.nots, 0 ≤ a.place ∧ a.place < ms.length) (hl1 : t.ins.length < 2 ^ 62) (hl2 : t.nots.length < 2 ^ 62) :
    Ct prog n_mark_May [.agg tc, mv] G H (fun v G' H' => v = .bool (may t ms) ∧ G = G' ∧ H' = H) := by
  obtain ⟨iv, nv, ov, rfl, hi, hn, ho⟩ := hT
  refine ct_body (fn := f_mark_May) rfl rfl rfl ?_
  refine wp_seqO ?_
  refine s_bx fun b2 => ?_; refine s_mv ?_; refine wpi_nil ?_
  refine wp_seq ?_
  refine wp_seqO ?_
  refine s_fA ?_; refine s_ld ?_; refine s_ln ?_; refine s_mv ?_; refine wpi_nil ?_
  refine wp_block ?_
  refine wp_loopP (fun m E' H' => ∃ i : Nat, i ≤ t.ins.length ∧ m = t.ins.length - i ∧ (∀ j (hj : j < t.ins.length), j < i → inOk ms t.ins[j] = true) ∧
    E' = [(12, .int .i64 i), (11, .int .i64 t.ins.length), (10, iv), (2, .ptr b2 0), (1, mv)] ∧ H' = pt b2 (.cells none false [.str t.name, .int .i64 t.delay, .int .i64 t.prio, iv, nv, ov]) :: H) ?_ t.ins.length
    (by repeat (first | exact SubE.nil | refine SubE.cons rfl ?_)) (by repeat (first | exact HLe.refl | apply HLe.cons | apply HLe.drop)) ⟨0, by omega, by omega, fun j _ h => by omega, rfl, rfl⟩
  rintro m E' H' ⟨i, hil, rfl, hok, rfl, rfl⟩
  refine wp_seqO ?_
  refine s_ib ?_; refine wpi_nil ?_
  refine wp_seq ?_
  refine wp_cond rfl (fun h1 => ?_) (fun h1 => ?_)
  · have hlt : i < t.ins.length := by simpa using h1
    obtain ⟨b, o, cap, op, ro, c, rfl, k2, k5⟩ := hi.at' hlt
    refine wp_skip ?_
    refine wp_seq ?_
    refine wp_block ?_
    refine wp_seqO ?_
    (first | refine s_ix ?_ | refine s_ixi ?_); refine s_ld ?_; refine wpi_alloc fun b6 => ?_; refine s_st ?_; refine wpi_nil ?_
    obtain ⟨p0, p1⟩ := hin t.ins[i] (by simp)
    have hpl : t.ins[i].place.toNat < ms.length := by omega
    obtain ⟨b', o', cap', op', ro', c', rfl, k2', k5'⟩ := hm.at hpl
    refine wp_seqO ?_
    refine s_mv ?_; refine s_fA ?_; refine s_ld ?_; (first | refine s_ix ?_ | refine s_ixi ?_); refine s_ld ?_; refine s_fA ?_; refine s_ld ?_; refine s_ib ?_; refine wpi_nil ?_
    refine wp_cond rfl (fun h2 => ?_) (fun h2 => ?_)
    · refine wp_seqO ?_
      refine s_mv ?_; refine wpi_nil ?_
      refine wp_ret ?_
      refine ⟨_, .tmp rfl .nil, _, (by repeat (first | exact HLe.refl | apply HLe.cons | apply HLe.drop)), ?_, rfl, rfl⟩
      rw [may, all_false hlt]; rfl
      simpa [inOk, ati, hpl] using h2
    · refine wp_skip ?_
      refine wp_ops ?_
      refine s_ad ?_; refine s_mv ?_; refine wpi_nil ?_
      refine ⟨rfl, _, ?_, _, _, ?_, ?_, i + 1, hlt, rfl, all_take hlt hok ?_, rfl, rfl⟩
      · omega
      · repeat (first | exact SubE.nil | refine SubE.cons rfl ?_)
      · repeat (first | exact HLe.refl | apply HLe.cons | apply HLe.drop)
      · simpa [inOk, ati, hpl] using h2
  · have hin1 := all_done (p := inOk ms) (by simpa using h1) hok
    refine wp_exit ?_
    refine wp_seq ?_
    refine wp_seqO ?_
    refine s_fA ?_; refine s_ld ?_; refine s_ln ?_; refine s_mv ?_; refine wpi_nil ?_
    refine wp_block ?_
    refine wp_loopP (fun m E' H' => ∃ i : Nat, i ≤ t.nots.length ∧ m = t.nots.length - i ∧ (∀ j (hj : j < t.nots.length), j < i → notOk ms t.nots[j] = true) ∧
      E' = [(28, .int .i64 i), (27, .int .i64 t.nots.length), (26, nv), (2, .ptr b2 0), (1, mv)] ∧ H' = pt b2 (.cells none false [.str t.name, .int .i64 t.delay, .int .i64 t.prio, iv, nv, ov]) :: H) ?_ t.nots.length
      (by repeat (first | exact SubE.nil | refine SubE.cons rfl ?_)) (by repeat (first | exact HLe.refl | apply HLe.cons | apply HLe.drop)) ⟨0, by omega, by omega, fun j _ h => by omega, rfl, rfl⟩
    rintro m E' H' ⟨i, hil, rfl, hok, rfl, rfl⟩
    refine wp_seqO ?_
    refine s_ib ?_; refine wpi_nil ?_
    refine wp_seq ?_
    refine wp_cond rfl (fun h1 => ?_) (fun h1 => ?_)
    · have hlt : i < t.nots.length := by simpa using h1
      obtain ⟨b, o, cap, op, ro, c, rfl, k2, k5⟩ := hn.at' hlt
      refine wp_skip ?_
      refine wp_seq ?_
      refine wp_block ?_
      refine wp_seqO ?_
      (first | refine s_ix ?_ | refine s_ixi ?_); refine s_ld ?_; refine wpi_alloc fun b8 => ?_; refine s_st ?_; refine wpi_nil ?_
      obtain ⟨p0, p1⟩ := hin t.nots[i] (by simp)
      have hpl : t.nots[i].place.toNat < ms.length := by omega
      obtain ⟨b', o', cap', op', ro', c', rfl, k2', k5'⟩ := hm.at hpl
      refine wp_seqO ?_
      refine s_mv ?_; refine s_fA ?_; refine s_ld ?_; (first | refine s_ix ?_ | refine s_ixi ?_); refine s_ld ?_; refine s_fA ?_; refine s_ld ?_; refine s_ib ?_; refine wpi_nil ?_
      refine wp_cond rfl (fun h2 => ?_) (fun h2 => ?_)
      · refine wp_seqO ?_
        refine s_mv ?_; refine wpi_nil ?_
        refine wp_ret ?_
        refine ⟨_, .tmp rfl .nil, _, (by repeat (first | exact HLe.refl | apply HLe.cons | apply HLe.drop)), ?_, rfl, rfl⟩
        rw [may, hin1, all_false hlt]; rfl
        simpa [notOk, ati, hpl] using h2
      · refine wp_skip ?_
        refine wp_ops ?_
        refine s_ad ?_; refine s_mv ?_; refine wpi_nil ?_
        refine ⟨rfl, _, ?_, _, _, ?_, ?_, i + 1, hlt, rfl, all_take hlt hok ?_, rfl, rfl⟩
        · omega
        · repeat (first | exact SubE.nil | refine SubE.cons rfl ?_)
        · repeat (first | exact HLe.refl | apply HLe.cons | apply HLe.drop)
        · simpa [notOk, ati, hpl] using h2
    · have hin2 := all_done (p := notOk ms) (by simpa using h1) hok
      refine wp_exit ?_
      refine wp_seqO ?_
      refine s_mv ?_; refine wpi_nil ?_
      refine wp_ret ?_
      refine ⟨_, .tmp rfl .nil, _, (by repeat (first | exact HLe.refl | apply HLe.cons | apply HLe.drop)), ?_, rfl, rfl⟩
      rw [may, hin1, hin2]; rfl

