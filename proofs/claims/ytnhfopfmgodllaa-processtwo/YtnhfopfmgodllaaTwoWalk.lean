/-
  ProcessTwo's code, up to the three numbers that it computes of its arguments.
-/
import Derived.Test.YtnhfopfmgodllaaTwoChk
import Derived.KernelRfl
noncomputable section
namespace Two
open Go Go.Ab
set_option maxRecDepth 100000
def prims : Tr (List AV → St → Option (AV × St)) := Tr.put .nil 9 (some fun vs S => match vs with | [] => some (.bool true, S) | _ => none)
def prog : AProg := ⟨P1.funcs, P1.methods, prims⟩
def prog0 : AProg := ⟨P1.funcs, P1.methods, .nil⟩
def frK (k : Int) (w h : AV) : Fr := (((Tr.nil.put 6 (some (.bool false))).put 7 (some (.int .i64 k))).put 8 (some w)).put 9 (some h)
def wA : AV := .sym .i64 1 [(0, 1, 0, 8)]
def hA : AV := .sym .i64 1 [(0, 1, 0, 8), (1, 1, 0, 19)]
def wB : AV := .sym .i64 1 [(0, 1, 0, 8), (1, 1, 0, 8)]
def hB : AV := .sym .i64 0 [(0, 1, 0, 8)]
def rest : ACode := behind 4 P1.f5.body
def part : Nat → ACode → ACode
  | 0, .seq a _ => a
  | n + 1, .seq _ b => part n b
  | _, c => c
theorem awake : givesTrue (callA prog0 100000 9 [] St0) = true := by kernel_rfl
theorem primS [Inhabited Unknowns] : PrimS Go.Proofs.Try.prog [] prims := by
  have hcall : CallS Go.Proofs.Try.prog [] (callA prog0 100000) := callA_sound (AP := prog0) (names := names) mixed methS (fun f g h => by simp [prog0] at h) fnS 100000
  intro f g hg vs S v S' h μ w args _ hR hv
  simp only [prims, Tr.get_put] at hg
  split at hg
  · rename_i e; subst e
    cases hg
    cases vs with
    | nil =>
      cases h
      have : args = #[] := by cases args; rename_i l; cases hv; rfl
      subst this
      obtain ⟨S1, hS1⟩ := givesTrue_spec awake
      exact closed_prim hcall hS1 hR
    | cons _ _ => cases h
  · simp at hg

abbrev E : ACode → Fr → St → Option (AEx × Fr × St) := exec prog 100000
abbrev B : ACode := P1.f5.body
def F0 (a0 a1 a2 : Int) : Fr := enter 0 [.int .u8 a0, .int .u8 a1, .int .u8 a2]
def F1 (a0 a1 a2 : Int) : Fr := stepF' E (part 0 B) (F0 a0 a1 a2) St0
def F2 (a0 a1 a2 : Int) : Fr := stepF' E (part 1 B) (F1 a0 a1 a2) St0
def F3 (a0 a1 a2 : Int) : Fr := stepF' E (part 2 B) (F2 a0 a1 a2) St0
def F4 (a0 a1 a2 : Int) : Fr := stepF' E (part 3 B) (F3 a0 a1 a2) St0
theorem e1 (a0 a1 a2 : Int) : E (part 0 B) (F0 a0 a1 a2) St0 = some (.normal, F1 a0 a1 a2, St0) := by kernel_rfl
theorem e2 (a0 a1 a2 : Int) : E (part 1 B) (F1 a0 a1 a2) St0 = some (.normal, F2 a0 a1 a2, St0) := by kernel_rfl
theorem e3 (a0 a1 a2 : Int) : E (part 2 B) (F2 a0 a1 a2) St0 = some (.normal, F3 a0 a1 a2, St0) := by kernel_rfl
theorem e4 (a0 a1 a2 : Int) : E (part 3 B) (F3 a0 a1 a2) St0 = some (.normal, F4 a0 a1 a2, St0) := by kernel_rfl
theorem g6 (a0 a1 a2 : Int) : (F4 a0 a1 a2).get 6 = some (.bool false) := by kernel_rfl
theorem g7 (a0 a1 a2 : Int) : (F4 a0 a1 a2).get 7 = some (.int .i64 (wr .i64 (a0.tmod 15))) := by kernel_rfl
theorem g8 (a0 a1 a2 : Int) : (F4 a0 a1 a2).get 8 = some (.int .i64 (wr .i64 (1 + wr .i64 (a1.tmod 9)))) := by kernel_rfl
theorem g9 (a0 a1 a2 : Int) : (F4 a0 a1 a2).get 9 = some (.int .i64 (wr .i64 (a2.tmod 20))) := by kernel_rfl
theorem bs : B = .seq (part 0 B) (.seq (part 1 B) (.seq (part 2 B) (.seq (part 3 B) rest))) := by kernel_rfl

theorem core [Inhabited Unknowns] {k : Int} {wv hv : AV} (hrun : endsTrue 6 (exec prog 100000 rest (frK k wv hv) St0) = true) (a0 a1 a2 : Int) (h0 : wr .i64 (a0.tmod 15) = k)
    (h1 : ∀ μ, VR μ wv (.int .i64 (wr .i64 (1 + wr .i64 (a1.tmod 9))))) (h2 : ∀ μ, VR μ hv (.int .i64 (wr .i64 (a2.tmod 20)))) (w : World) :
    Calls Go.Proofs.Try.prog 5 #[.int .u8 a0, .int .u8 a1, .int .u8 a2] w fun e w' => e = .returned (.bool true) ∧ RowKit.Below w.heap.size w w' := by
  refine enter_wp (fnS 5 P1.f5 (by kernel_rfl)) (by kernel_rfl) ?_
  intro N c hc k' hk fin hfin
  have hex : CodeS Go.Proofs.Try.prog [] names E := codeS (AP := prog) mixed methS primS fnS 100000
  have hf : FrR Mu0 N (F0 a0 a1 a2) (#[Value.int .u8 a0, .int .u8 a1, .int .u8 a2] ++ Array.replicate k' undef) := by
    have := enter_frr (μ := Mu0) (vs := [.int .u8 a0, .int .u8 a1, .int .u8 a2]) (args := #[.int .u8 a0, .int .u8 a1, .int .u8 a2]) (.cons (.int _ _) (.cons (.int _ _) (.cons (.int _ _) .nil))) k'
    rw [← hk]; exact this
  have gr : ∀ μ, GR [] μ := fun _ _ h => by cases h
  have hc' : chkCode Go.Proofs.Try.prog [] names N c (.seq (part 0 B) (.seq (part 1 B) (.seq (part 2 B) (.seq (part 3 B) rest)))) = true := by rw [← bs]; exact hc
  refine hex.seq hc' (e1 a0 a1 a2) gr0 (rel0 w) hf rfl fun c1 hc1 μ1 w1 b1 r1 f1 d1 s1 => ?_
  refine hex.seq hc1 (e2 a0 a1 a2) (gr _) r1 f1 d1 fun c2 hc2 μ2 w2 b2 r2 f2 d2 s2 => ?_
  refine hex.seq hc2 (e3 a0 a1 a2) (gr _) r2 f2 d2 fun c3 hc3 μ3 w3 b3 r3 f3 d3 s3 => ?_
  refine hex.seq hc3 (e4 a0 a1 a2) (gr _) r3 f3 d3 fun c4 hc4 μ4 w4 b4 r4 f4 d4 s4 => ?_
  have weak : FrR μ4 N (frK k wv hv) b4.tmps := by
    refine ⟨f4.size, fun n v e => ?_⟩
    simp only [frK, Tr.get_put] at e
    split at e
    · rename_i x; subst x; cases e
      obtain ⟨u, u1, u2⟩ := f4.get 9 _ (g9 a0 a1 a2)
      cases u2; exact ⟨_, u1, h2 _⟩
    · split at e
      · rename_i x; subst x; cases e
        obtain ⟨u, u1, u2⟩ := f4.get 8 _ (g8 a0 a1 a2)
        cases u2; exact ⟨_, u1, h1 _⟩
      · split at e
        · rename_i x; subst x; cases e
          have := f4.get 7 _ (g7 a0 a1 a2)
          rwa [h0] at this
        · split at e
          · rename_i x; subst x; cases e
            exact f4.get 6 _ (g6 a0 a1 a2)
          · simp at e
  obtain ⟨fr', S', hr, ht⟩ := endsTrue_spec hrun
  refine hex N c4 rest hc4 _ _ _ _ _ hr μ4 w4 b4 (gr _) r4 weak d4 _ fun a' w' ⟨μ5, k1, k2, k3, k4⟩ => ?_
  refine hfin .ret a' w' fr' S' μ5 (.inl rfl) k1 k2 k3 [.bool true] ?_ fun u hu => ?_
  · rw [show P1.f5.res = [.tmp 6] from rfl]; simp only [Go.Ab.results, ht]
  · cases hu
    exact ⟨rfl, stp0_below (s1.trans (s2.trans (s3.trans (s4.trans k4))))⟩
end Two
