/-
  ProcessTwo, of its runs.
-/
import Derived.Test.YtnhfopfmgodllaaTwoWalk
import Derived.WalkKit
import Derived.ProofKit
import Derived.OpenShut
noncomputable section
namespace Two
open Go Go.Ab
theorem u8_range {a : Int} (h : (Lit.int .u8 a).wf = true) : 0 ≤ a ∧ a ≤ 255 := by
  have e0 : IntKind.u8.min = 0 := rfl
  have e1 : IntKind.u8.max = 255 := rfl
  simp [Lit.wf, e0, e1] at h
  exact h
theorem small [Inhabited Unknowns] {m : Int} (h0 : 0 ≤ m) (h1 : m ≤ 1000) : wr .i64 m = m := by rw [wr_eq]; exact wrap_small h0 (by omega)
theorem symVR [Inhabited Unknowns] {c : Int} {ts : List Tm} {n : Int} (h : okT ts) (e : n = c + evT ts) (μ : Mu) : VR μ (.sym .i64 c ts) (.int .i64 n) := by rw [e]; exact .sym h

theorem walk (runA : ∀ j : Nat, j < 15 → endsTrue 6 (exec prog 100000 rest (frK (j : Int) wA hA) St0) = true) (runB : ∀ j : Nat, j < 15 → endsTrue 6 (exec prog 100000 rest (frK (j : Int) wB hB) St0) = true)
    (a0 : Int) (a1 : Int) (a2 : Int) (w : World) (w0 : (Lit.int .u8 a0).wf = true) (w1 : (Lit.int .u8 a1).wf = true) (w2 : (Lit.int .u8 a2).wf = true) :
    Calls Go.Proofs.Try.prog 5 #[.int .u8 a0, .int .u8 a1, .int .u8 a2] w fun e w' => e = .returned (.bool true) ∧ RowKit.Below w.heap.size w w' := by
  obtain ⟨l0, g0⟩ := u8_range w0
  obtain ⟨l1, g1⟩ := u8_range w1
  obtain ⟨l2, g2⟩ := u8_range w2
  have t0 : a0.tmod 15 = a0 % 15 := Int.tmod_eq_emod_of_nonneg l0
  have t1 : a1.tmod 9 = a1 % 9 := Int.tmod_eq_emod_of_nonneg l1
  have t2 : a2.tmod 20 = a2 % 20 := Int.tmod_eq_emod_of_nonneg l2
  have hk : wr .i64 (a0.tmod 15) = ((a0 % 15).toNat : Int) := by
    letI : Inhabited Unknowns := ⟨⟨fun _ => 0⟩⟩
    rw [t0, small (m := a0 % 15) (by omega) (by omega)]; omega
  have hj : (a0 % 15).toNat < 15 := by omega
  by_cases hc : 1 + a1 % 9 ≤ a2 % 20
  · letI : Inhabited Unknowns := ⟨⟨fun n => if n = 0 then a1 % 9 else a2 % 20 - (1 + a1 % 9)⟩⟩
    have d0 : (default : Unknowns).is 0 = a1 % 9 := rfl
    have d1 : (default : Unknowns).is 1 = a2 % 20 - (1 + a1 % 9) := rfl
    refine core (runA _ hj) a0 a1 a2 hk (fun μ => symVR ?_ ?_ μ) (fun μ => symVR ?_ ?_ μ) w
    · simp only [okT, d0, and_true]; omega
    · simp only [evT, d0]; rw [t1, small (m := a1 % 9) (by omega) (by omega), small (m := 1 + a1 % 9) (by omega) (by omega)]; omega
    · simp only [okT, d0, d1, and_true]; omega
    · simp only [evT, d0, d1]; rw [t2, small (m := a2 % 20) (by omega) (by omega)]; omega
  · letI : Inhabited Unknowns := ⟨⟨fun n => if n = 0 then a2 % 20 else a1 % 9 - a2 % 20⟩⟩
    have d0 : (default : Unknowns).is 0 = a2 % 20 := rfl
    have d1 : (default : Unknowns).is 1 = a1 % 9 - a2 % 20 := rfl
    refine core (runB _ hj) a0 a1 a2 hk (fun μ => symVR ?_ ?_ μ) (fun μ => symVR ?_ ?_ μ) w
    · simp only [okT, d0, d1, and_true]; omega
    · simp only [evT, d0, d1]; rw [t1, small (m := a1 % 9) (by omega) (by omega), small (m := 1 + a1 % 9) (by omega) (by omega)]; omega
    · simp only [okT, d0, and_true]; omega
    · simp only [evT, d0]; rw [t2, small (m := a2 % 20) (by omega) (by omega)]; omega
end Two
