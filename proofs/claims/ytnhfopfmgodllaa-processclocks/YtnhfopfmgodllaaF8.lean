/-
  A part of the proof: contracts of functions of the program, over the abstract machine.
-/
import Derived.Test.YtnhfopfmgodllaaF7
noncomputable section
namespace Go.Sl
open Go Go.Ab Cd
set_option linter.unusedVariables false
set_option linter.unusedSimpArgs false
set_option maxRecDepth 10000

/-- Nets whose arcs lead to places that are there, and whose numbers are within bounds. -/
structure Net.ok (n : Net) : Prop extends n.small where
  arcsIn : ∀ t ∈ n.trans, ∀ a ∈ t.ins ++ t.nots ++ t.outs, 0 ≤ a.place ∧ a.place < n.places.length ∧ 1 ≤ a.n ∧ a.n ≤ 1000000
  tokens : ∀ p ∈ n.places, 0 ≤ p.tokens ∧ p.tokens ≤ 1000000
  nums : ∀ t ∈ n.trans, 0 ≤ t.delay ∧ t.delay ≤ 1000000 ∧ 0 ≤ t.prio ∧ t.prio ≤ 1000000

def Part.fits (p : Part) (n : Net) : Prop := p.places.length = n.places.length ∧ p.trans.length = n.trans.length ∧ 1 ≤ p.n ∧ p.n ≤ 32
instance (p : Part) (n : Net) : Decidable (p.fits n) := by unfold Part.fits; infer_instance
def inR (N k : Int) : Bool := decide (0 ≤ k) && decide (k < N)
def looksHome (p : Part) (i : Nat) (t : Trans) : Bool := (looksL t).all fun k => decide (ati p.places k = ati p.trans i)
def outsHome (p : Part) (i : Nat) (t : Trans) : Bool := t.outs.all fun a => !(decide (t.delay = 0) && decide (ati p.places a.place ≠ ati p.trans i))
def transHome (p : Part) (n : Net) (k : Nat) : Prop := ∀ i, i < n.trans.length → i < k → looksHome p i (n.trans.getD i default) = true ∧ outsHome p i (n.trans.getD i default) = true
def partCheck (n : Net) (p : Part) : Int := open Classical in
  if ¬ p.fits n then 1 else if ¬ (p.places.all (inR p.n) = true ∧ p.trans.all (inR p.n) = true) then 1 else if transHome p n n.trans.length then 0 else 9

theorem looksL_in {T : Trans} {P : Int → Prop} (h : ∀ a ∈ T.ins ++ T.nots ++ T.outs, P a.place) : ∀ k ∈ looksL T, P k := by
  intro k hk
  unfold looksL at hk
  rcases List.mem_append.1 hk with hk | hk <;> obtain ⟨a, ha, rfl⟩ := List.mem_map.1 hk <;> exact h a (by simp [ha])

theorem ct_PCheck {G : GB} {nv pv : AV} {n : Net} {p : Part} (hN : netR (Gr G) nv n) (hO : n.ok) (hP : partR (Gr G) pv p) (hpl : p.places.length < 1000) (hpt : p.trans.length < 1000) :
    Ct prog n_part_Check [nv, pv] G [] (fun v G' H' => v = .int .i64 (partCheck n p) ∧ H' = []) := by
  obtain ⟨nv1, nv2, rfl, hn1, hn2⟩ := hN
  obtain ⟨pv1, pv2, rfl, hp1, hp2⟩ := hP
  have l1 := hn1.len
  have l2 := hn2.len
  have l3 := hp1.len
  have l4 := hp2.len
  have hs1 := hO.places
  have hs2 := hO.trans
  refine ct_body (fn := f_part_Check) rfl rfl rfl ?_
  repeat refine wp_seq ?_
  refine wp_ops ?_
  refine s_bx fun b2 => ?_; refine s_bx fun b3 => ?_; refine s_mv ?_; refine wpi_nil ?_
  refine wp_seq ?_
  refine wp_seq ?_
  refine wp_ops ?_
  refine s_fA ?_; refine s_ld ?_; refine s_ln ?_; refine s_fA ?_; refine s_ld ?_; refine s_ln ?_; refine s_ib ?_; refine s_mv ?_
  have fin1 : ∀ {E G'}, ¬ p.fits n → SubE E [(4, .int .i64 1)] → ∀ H, retQ f_part_Check.res (fun v G' H' => v = .int .i64 (partCheck n p) ∧ H' = []) .ret G' E H := by
    intro E G' h hs H
    refine ⟨_, .tmp (hs 4 _ rfl) .nil, [], HLe.nil, ?_, rfl⟩
    rw [partCheck, if_pos h]; rfl
  refine wpi_case 22 rfl (fun h => ?_) (fun h => ?_)
  · have hnf : ¬ p.fits n := fun hf => by have := ne_of h; unfold Part.fits at hf; omega
    first
      | refine s_gn ?_
      | refine s_gy ?_
        refine s_fA ?_
    first
      | refine s_gn ?_
      | refine s_gy ?_
        refine s_ld ?_
    first
      | refine s_gn ?_
      | refine s_gy ?_
        refine s_ln ?_
    first
      | refine s_gn ?_
      | refine s_gy ?_
        refine s_fA ?_
    first
      | refine s_gn ?_
      | refine s_gy ?_
        refine s_ld ?_
    first
      | refine s_gn ?_
      | refine s_gy ?_
        refine s_ln ?_
    first
      | refine s_gn ?_
      | refine s_gy ?_
        refine s_ib ?_
    (first | refine s_pt ?_ | refine s_pf ?_ | refine s_pb ?_); refine s_mv ?_
    first
      | refine s_gn ?_
      | refine s_gy ?_
        refine s_fA ?_
    first
      | refine s_gn ?_
      | refine s_gy ?_
        refine s_ld ?_
    first
      | refine s_gn ?_
      | refine s_gy ?_
        refine s_ib ?_
    (first | refine s_pt ?_ | refine s_pf ?_ | refine s_pb ?_); refine s_mv ?_
    first
      | refine s_gn ?_
      | refine s_gy ?_
        refine s_fA ?_
    first
      | refine s_gn ?_
      | refine s_gy ?_
        refine s_ld ?_
    first
      | refine s_gn ?_
      | refine s_gy ?_
        refine s_ib ?_
    (first | refine s_pt ?_ | refine s_pf ?_ | refine s_pb ?_); refine wpi_nil ?_
    repeat refine wp_seq ?_
    refine wp_cond rfl (fun h1 => ?_) (fun h1 => ?_)
    · repeat refine wp_seq ?_
      refine wp_ops ?_
      refine s_mv ?_; refine wpi_nil ?_
      repeat refine wp_seq ?_
      refine wp_ret ?_
      refine fin1 hnf ?_ _
      repeat (first | exact SubE.nil | refine SubE.cons rfl ?_)
    · cases h1
  have e1 : p.places.length = n.places.length := by have := eq_of h; omega
  first
    | refine s_gn ?_
    | refine s_gy ?_
      refine s_fA ?_
  first
    | refine s_gn ?_
    | refine s_gy ?_
      refine s_ld ?_
  first
    | refine s_gn ?_
    | refine s_gy ?_
      refine s_ln ?_
  first
    | refine s_gn ?_
    | refine s_gy ?_
      refine s_fA ?_
  first
    | refine s_gn ?_
    | refine s_gy ?_
      refine s_ld ?_
  first
    | refine s_gn ?_
    | refine s_gy ?_
      refine s_ln ?_
  first
    | refine s_gn ?_
    | refine s_gy ?_
      refine s_ib ?_
  (first | refine s_pt ?_ | refine s_pf ?_ | refine s_pb ?_); refine s_mv ?_
  refine wpi_case 31 rfl (fun h => ?_) (fun h => ?_)
  · have hnf : ¬ p.fits n := fun hf => by have := ne_of h; unfold Part.fits at hf; omega
    first
      | refine s_gn ?_
      | refine s_gy ?_
        refine s_fA ?_
    first
      | refine s_gn ?_
      | refine s_gy ?_
        refine s_ld ?_
    first
      | refine s_gn ?_
      | refine s_gy ?_
        refine s_ib ?_
    (first | refine s_pt ?_ | refine s_pf ?_ | refine s_pb ?_); refine s_mv ?_
    first
      | refine s_gn ?_
      | refine s_gy ?_
        refine s_fA ?_
    first
      | refine s_gn ?_
      | refine s_gy ?_
        refine s_ld ?_
    first
      | refine s_gn ?_
      | refine s_gy ?_
        refine s_ib ?_
    (first | refine s_pt ?_ | refine s_pf ?_ | refine s_pb ?_); refine wpi_nil ?_
    repeat refine wp_seq ?_
    refine wp_cond rfl (fun h1 => ?_) (fun h1 => ?_)
    · repeat refine wp_seq ?_
      refine wp_ops ?_
      refine s_mv ?_; refine wpi_nil ?_
      repeat refine wp_seq ?_
      refine wp_ret ?_
      refine fin1 hnf ?_ _
      repeat (first | exact SubE.nil | refine SubE.cons rfl ?_)
    · cases h1
  have e2 : p.trans.length = n.trans.length := by have := eq_of h; omega
  first
    | refine s_gn ?_
    | refine s_gy ?_
      refine s_fA ?_
  first
    | refine s_gn ?_
    | refine s_gy ?_
      refine s_ld ?_
  first
    | refine s_gn ?_
    | refine s_gy ?_
      refine s_ib ?_
  (first | refine s_pt ?_ | refine s_pf ?_ | refine s_pb ?_); refine s_mv ?_
  refine wpi_case 36 rfl (fun h => ?_) (fun h => ?_)
  · have hnf : ¬ p.fits n := fun hf => by have := of_decide_eq_true h; unfold Part.fits at hf; omega
    first
      | refine s_gn ?_
      | refine s_gy ?_
        refine s_fA ?_
    first
      | refine s_gn ?_
      | refine s_gy ?_
        refine s_ld ?_
    first
      | refine s_gn ?_
      | refine s_gy ?_
        refine s_ib ?_
    (first | refine s_pt ?_ | refine s_pf ?_ | refine s_pb ?_); refine wpi_nil ?_
    repeat refine wp_seq ?_
    refine wp_cond rfl (fun h1 => ?_) (fun h1 => ?_)
    · repeat refine wp_seq ?_
      refine wp_ops ?_
      refine s_mv ?_; refine wpi_nil ?_
      repeat refine wp_seq ?_
      refine wp_ret ?_
      refine fin1 hnf ?_ _
      repeat (first | exact SubE.nil | refine SubE.cons rfl ?_)
    · cases h1
  have e3 : 1 ≤ p.n := by have := of_decide_eq_false h; omega
  first
    | refine s_gn ?_
    | refine s_gy ?_
      refine s_fA ?_
  first
    | refine s_gn ?_
    | refine s_gy ?_
      refine s_ld ?_
  first
    | refine s_gn ?_
    | refine s_gy ?_
      refine s_ib ?_
  (first | refine s_pt ?_ | refine s_pf ?_ | refine s_pb ?_); refine wpi_nil ?_
  repeat refine wp_seq ?_
  refine wp_cond rfl (fun h1 => ?_) (fun h1 => ?_)
  · have hnf : ¬ p.fits n := fun hf => by have := of_decide_eq_true h1; unfold Part.fits at hf; omega
    repeat refine wp_seq ?_
    refine wp_ops ?_
    refine s_mv ?_; refine wpi_nil ?_
    repeat refine wp_seq ?_
    refine wp_ret ?_
    refine fin1 hnf ?_ _
    repeat (first | exact SubE.nil | refine SubE.cons rfl ?_)
  have e4 : p.n ≤ 32 := by have := of_decide_eq_false h1; omega
  have hf : p.fits n := ⟨e1, e2, e3, e4⟩
  clear h1 h fin1
  have op : One pv1 := hp1.one
  have ot : One pv2 := hp2.one
  have hfill : fill [.nils, .nils] [(0, 1, pv1), (1, 1, pv2)] = some [pv1, pv2] := by simp only [fill_cons op, fill_cons ot]; rfl
  repeat refine wp_seq ?_
  refine wp_skip ?_
  repeat refine wp_seq ?_
  refine wp_ops ?_
  refine s_fA ?_; refine s_ld ?_; refine s_fA ?_; refine s_ld ?_; refine s_bu ?_; refine s_mv ?_; refine wpi_nil ?_
  repeat refine wp_seq ?_
  refine wp_block ?_
  refine wp_loopX (α := Unit) 2 (fun i _ => [(46, intN i), (45, .agg [pv1, pv2]), (2, .ptr b2 0), (3, .ptr b3 0)]) (fun i _ => [pt b3 (.cells none false [.int .i64 p.n, pv1, pv2]), pt b2 (.cells none false [nv1, nv2])])
    (fun i _ => (0 < i → p.places.all (inR p.n) = true) ∧ (1 < i → p.trans.all (inR p.n) = true)) () ⟨by omega, by omega⟩ (by repeat (first | exact SubE.nil | refine SubE.cons rfl ?_)) (by repeat (first | exact HLe.nil | (apply HLe.take; focus (repeat (first | exact Take.head | apply Take.tail))))) ?_
  rintro i - hil ⟨hd1, hd2⟩
  repeat refine wp_seq ?_
  refine wp_ops ?_
  refine s_ib ?_; refine wpi_nil ?_
  repeat refine wp_seq ?_
  refine wp_cond rfl (fun h1 => ?_) (fun h1 => ?_)
  · have hi2 : i < 2 := by
      have := of_decide_eq_true h1
      omega
    clear h1
    obtain ⟨lv, L, hL, hpart, hLl, hgood, hbad⟩ : ∃ lv L, Ints (Gr G) lv L ∧ Ab.part [pv1, pv2] ((i : Int).toNat * 1) none = some lv ∧ L.length < 1000 ∧ (L.all (inR p.n) = true → (0 < i + 1 → p.places.all (inR p.n) = true) ∧ (1 < i + 1 → p.trans.all (inR p.n) = true)) ∧ (L.all (inR p.n) = false → ¬ (p.places.all (inR p.n) = true ∧ p.trans.all (inR p.n) = true)) := by
      rcases (by omega : i = 0 ∨ i = 1) with rfl | rfl
      · exact ⟨pv1, p.places, hp1, rfl, hpl, fun h => ⟨fun _ => h, by omega⟩, fun h hh => by rw [hh.1] at h; cases h⟩
      · exact ⟨pv2, p.trans, hp2, rfl, hpt, fun h => ⟨fun _ => hd1 (by omega), fun _ => h⟩, fun h hh => by rw [hh.2] at h; cases h⟩
    have hLn := hL.len
    repeat refine wp_seq ?_
    refine wp_skip ?_
    refine wp_seq ?_
    repeat refine wp_seq ?_
    refine wp_block ?_
    repeat refine wp_seq ?_
    refine wp_ops ?_
    refine s_xV ?_; refine s_mv ?_; refine wpi_nil ?_
    repeat refine wp_seq ?_
    refine wp_ops ?_
    refine s_mv ?_; refine s_ln ?_; refine s_mv ?_; refine wpi_nil ?_
    repeat refine wp_seq ?_
    refine wp_block ?_
    refine wp_loopX (α := Unit) L.length (fun j _ => [(51, intN j), (50, intN L.length), (49, lv), (46, intN i), (45, .agg [pv1, pv2]), (2, .ptr b2 0), (3, .ptr b3 0)]) (fun _ _ => [pt b3 (.cells none false [.int .i64 p.n, pv1, pv2]), pt b2 (.cells none false [nv1, nv2])])
      (fun j _ => ∀ k (hk : k < L.length), k < j → inR p.n L[k] = true) () (fun k _ h => by omega) (by repeat (first | exact SubE.nil | refine SubE.cons rfl ?_)) (by repeat (first | exact HLe.nil | (apply HLe.take; focus (repeat (first | exact Take.head | apply Take.tail))))) ?_
    rintro j - hjl hok
    repeat refine wp_seq ?_
    refine wp_ops ?_
    refine s_ib ?_; refine wpi_nil ?_
    repeat refine wp_seq ?_
    refine wp_cond rfl (fun h1 => ?_) (fun h1 => ?_)
    · have hjt : j < L.length := by simpa using h1
      clear h1
      obtain ⟨b, o, cap, op', ro, c, rfl, k2, k5⟩ := hL.at hjt
      have bad : ∀ {E G'}, inR p.n L[j] = false → SubE E [(4, .int .i64 1)] → ∀ H, retQ f_part_Check.res (fun v G' H' => v = .int .i64 (partCheck n p) ∧ H' = []) .ret G' E H := by
        intro E G' h hs H
        refine ⟨_, .tmp (hs 4 _ rfl) .nil, [], HLe.nil, ?_, rfl⟩
        rw [partCheck, if_neg (not_not_intro hf), if_pos (hbad (all_false hjt h))]; rfl
      repeat refine wp_seq ?_
      refine wp_skip ?_
      refine wp_seq ?_
      repeat refine wp_seq ?_
      refine wp_block ?_
      repeat refine wp_seq ?_
      refine wp_ops ?_
      (first | refine s_ix ?_ | refine s_ixi ?_); refine s_ld ?_; refine s_mv ?_; refine wpi_nil ?_
      refine wp_seq ?_
      refine wp_ops ?_
      refine s_mv ?_; refine s_ib ?_; refine s_mv ?_
      refine wpi_case 57 rfl (fun h => ?_) (fun h => ?_)
      · have hb : inR p.n L[j] = false := by have := of_decide_eq_true h; simp [inR]; omega
        first
          | refine s_gn ?_
          | refine s_gy ?_
            refine s_mv ?_
        first
          | refine s_gn ?_
          | refine s_gy ?_
            refine s_fA ?_
        first
          | refine s_gn ?_
          | refine s_gy ?_
            refine s_ld ?_
        first
          | refine s_gn ?_
          | refine s_gy ?_
            refine s_ib ?_
        (first | refine s_pt ?_ | refine s_pf ?_ | refine s_pb ?_); refine wpi_nil ?_
        repeat refine wp_seq ?_
        refine wp_cond rfl (fun h1 => ?_) (fun h1 => ?_)
        · repeat refine wp_seq ?_
          refine wp_ops ?_
          refine s_mv ?_; refine wpi_nil ?_
          repeat refine wp_seq ?_
          refine wp_ret ?_
          refine bad hb ?_ _
          repeat (first | exact SubE.nil | refine SubE.cons rfl ?_)
        · cases h1
      first
        | refine s_gn ?_
        | refine s_gy ?_
          refine s_mv ?_
      first
        | refine s_gn ?_
        | refine s_gy ?_
          refine s_fA ?_
      first
        | refine s_gn ?_
        | refine s_gy ?_
          refine s_ld ?_
      first
        | refine s_gn ?_
        | refine s_gy ?_
          refine s_ib ?_
      (first | refine s_pt ?_ | refine s_pf ?_ | refine s_pb ?_); refine wpi_nil ?_
      repeat refine wp_seq ?_
      refine wp_cond rfl (fun h1 => ?_) (fun h1 => ?_)
      · have hb : inR p.n L[j] = false := by have := of_decide_eq_true h1; simp [inR]; omega
        repeat refine wp_seq ?_
        refine wp_ops ?_
        refine s_mv ?_; refine wpi_nil ?_
        repeat refine wp_seq ?_
        refine wp_ret ?_
        refine bad hb ?_ _
        repeat (first | exact SubE.nil | refine SubE.cons rfl ?_)
      · have hb : inR p.n L[j] = true := by
          have := of_decide_eq_false h1
          have := of_decide_eq_false h
          simp [inR]; omega
        repeat refine wp_seq ?_
        refine wp_skip ?_
        repeat refine wp_seq ?_
        refine wp_ops ?_
        refine s_ad ?_; refine s_mv ?_; refine wpi_nil ?_
        exact ⟨rfl, hjt, (), all_take (p := inR p.n) hjt hok hb, by repeat (first | exact SubE.nil | refine SubE.cons rfl ?_), by repeat (first | exact HLe.nil | (apply HLe.take; focus (repeat (first | exact Take.head | apply Take.tail))))⟩
    · have hall := all_done (p := inR p.n) (by simpa using h1) hok
      repeat refine wp_seq ?_
      refine wp_exit ?_
      repeat refine wp_seq ?_
      refine wp_ops ?_
      refine s_ad ?_; refine s_mv ?_; refine wpi_nil ?_
      exact ⟨rfl, hi2, (), hgood hall, by repeat (first | exact SubE.nil | refine SubE.cons rfl ?_), by repeat (first | exact HLe.nil | (apply HLe.take; focus (repeat (first | exact Take.head | apply Take.tail))))⟩
  have hi : i = 2 := by
    have : ¬ (i : Int) < 2 := of_decide_eq_false h1
    omega
  subst hi
  have hr : p.places.all (inR p.n) = true ∧ p.trans.all (inR p.n) = true := ⟨hd1 (by omega), hd2 (by omega)⟩
  clear hd1 hd2 h1 hil
  repeat refine wp_seq ?_
  refine wp_exit ?_
  repeat refine wp_seq ?_
  refine wp_ops ?_
  refine s_fA ?_; refine s_ld ?_; refine s_ln ?_; refine s_mv ?_; refine wpi_nil ?_
  repeat refine wp_seq ?_
  refine wp_block ?_
  have bad : ∀ {E G'}, ¬ transHome p n n.trans.length → SubE E [(4, .int .i64 9)] → ∀ H, retQ f_part_Check.res (fun v G' H' => v = .int .i64 (partCheck n p) ∧ H' = []) .ret G' E H := by
    intro E G' h hs H
    refine ⟨_, .tmp (hs 4 _ rfl) .nil, [], HLe.nil, ?_, rfl⟩
    rw [partCheck, if_neg (not_not_intro hf), if_neg (not_not_intro hr), if_neg h]; rfl
  refine wp_loopG (α := Unit) n.trans.length (fun i _ => [(68, intN i), (67, intN n.trans.length), (66, nv2), (2, .ptr b2 0), (3, .ptr b3 0)]) (fun _ _ => [pt b3 (.cells none false [.int .i64 p.n, pv1, pv2]), pt b2 (.cells none false [nv1, nv2])])
    (fun i _ _ => transHome p n i) () (fun i _ h => by omega) (by repeat (first | exact SubE.nil | refine SubE.cons rfl ?_)) (by repeat (first | exact HLe.nil | (apply HLe.take; focus (repeat (first | exact Take.head | apply Take.tail))))) ?_
  rintro i - G2 le2 hil hok
  repeat refine wp_seq ?_
  refine wp_ops ?_
  refine s_ib ?_; refine wpi_nil ?_
  repeat refine wp_seq ?_
  refine wp_cond rfl (fun h1 => ?_) (fun h1 => ?_)
  · have hlt : i < n.trans.length := by simpa using h1
    clear h1
    have hn2' := hn2.mono (Gr.le le2) (fun _ _ h => transC.mono (Gr.le le2) h)
    have hp1' := hp1.mono (Gr.le le2) (fun _ _ h => h)
    have hp2' := hp2.mono (Gr.le le2) (fun _ _ h => h)
    obtain ⟨b, o, cap, op', ro, c, y, rfl, k2, k3, k4, k5, k6⟩ := hn2'.at hlt
    obtain ⟨a1, a2, a3⟩ := hO.arcs _ (List.getElem_mem hlt)
    have hai := hO.arcsIn _ (List.getElem_mem hlt)
    have hgd : n.trans.getD i default = n.trans[i] := getD_lt hlt
    have hip : i < p.trans.length := by omega
    obtain ⟨qb, qo, qcap, qop, qro, qc, rfl, q2, q5⟩ := Ints.at hp2' hip
    have hati : ati p.trans i = p.trans[i] := by unfold ati; rw [Int.toNat_natCast, getD_lt hip]
    generalize n.trans[i] = T at *
    generalize p.trans[i] = me at *
    have k3' := k3
    obtain ⟨iv, nv, ov, rfl, hi, hn, ho⟩ := k3'
    repeat refine wp_seq ?_
    refine wp_skip ?_
    refine wp_seq ?_
    repeat refine wp_seq ?_
    refine wp_block ?_
    repeat refine wp_seq ?_
    refine wp_ops ?_
    refine s_mv ?_; (first | refine s_ix ?_ | refine s_ixi ?_); refine s_ld ?_; refine wpi_alloc fun b10 => ?_; refine s_mv ?_; refine s_st ?_; refine wpi_nil ?_
    refine wp_seq ?_
    refine wp_seq ?_
    refine wp_ops ?_
    refine s_ld ?_
    refine wpi_callF rfl (ct_GLooks k3 (by omega) (by omega)) (by repeat (first | exact HLe.splitNil | (apply HLe.splitCons; focus (repeat (first | exact Take.head | apply Take.tail))))) ?_
    rintro v74 G74 H74 le74 ⟨hlk, rfl⟩
    try simp only [List.nil_append, List.cons_append]
    refine s_ln ?_; refine s_mv ?_; refine wpi_nil ?_
    have hlkl := hlk.len
    have hpr : p.places.all (inR p.n) = true := hr.1
    have bad2 : ¬ (looksHome p i T = true ∧ outsHome p i T = true) → ¬ transHome p n n.trans.length := fun h hh => h (by have := hh i hlt hlt; rwa [hgd] at this)
    have hp1s := hp1'.mono (Gr.le le74) (fun _ _ h => h)
    have q2s : Gr G74 qb (.cells qop qro qc) := le74 _ _ q2
    have ho' : Arcs (Gr G74) ov T.outs := SlL.mono ho (Gr.le le74) (fun _ _ h => h)
    have hol := ho'.len
    clear ho hi hn k2 q2 hn2' hp1' hp2' k3 k4 k5 k6
    repeat refine wp_seq ?_
    refine wp_block ?_
    refine wp_loopX (α := Unit) (looksL T).length (fun j _ => [(76, intN j), (75, intN (looksL T).length), (74, v74), (10, .ptr b10 0), (9, intN i), (68, intN i), (67, intN n.trans.length), (66, .slc b o n.trans.length cap), (2, .ptr b2 0), (3, .ptr b3 0)])
      (fun _ _ => [pt b10 (.cells none false [.str T.name, .int .i64 T.delay, .int .i64 T.prio, iv, nv, ov]), pt b3 (.cells none false [.int .i64 p.n, pv1, .slc qb qo p.trans.length qcap]), pt b2 (.cells none false [nv1, .slc b o n.trans.length cap])])
      (fun j _ => ∀ k (hk : k < (looksL T).length), k < j → decide (ati p.places (looksL T)[k] = ati p.trans i) = true) () (fun k _ h => by omega) (by repeat (first | exact SubE.nil | refine SubE.cons rfl ?_)) (by repeat (first | exact HLe.nil | (apply HLe.take; focus (repeat (first | exact Take.head | apply Take.tail))))) ?_
    rintro j - hjl hokj
    have lkl : (looksL T).length ≤ 80 := by simp [looksL]; omega
    repeat refine wp_seq ?_
    refine wp_ops ?_
    refine s_ib ?_; refine wpi_nil ?_
    repeat refine wp_seq ?_
    refine wp_cond rfl (fun h1 => ?_) (fun h1 => ?_)
    · have hjt : j < (looksL T).length := by simpa using h1
      clear h1
      obtain ⟨lb, lo, lcap, lop, lro, lc, rfl, m2, m5⟩ := Ints.at hlk hjt
      have hin : 0 ≤ (looksL T)[j] ∧ (looksL T)[j] < n.places.length := by
        exact looksL_in (P := fun k => 0 ≤ k ∧ k < n.places.length) (fun a ha => by have := hai a ha; omega) _ (List.getElem_mem hjt)
      have hpx : ((looksL T)[j]).toNat < p.places.length := by omega
      obtain ⟨xb, xo, xcap, xop, xro, xc, rfl, x2, x5⟩ := Ints.at hp1s hpx
      have hax : ati p.places (looksL T)[j] = p.places[((looksL T)[j]).toNat] := by unfold ati; rw [getD_lt hpx]
      repeat refine wp_seq ?_
      refine wp_skip ?_
      refine wp_seq ?_
      repeat refine wp_seq ?_
      refine wp_block ?_
      repeat refine wp_seq ?_
      refine wp_ops ?_
      (first | refine s_ix ?_ | refine s_ixi ?_); refine s_ld ?_; refine s_mv ?_; refine wpi_nil ?_
      repeat refine wp_seq ?_
      refine wp_ops ?_
      refine s_fA ?_; refine s_ld ?_; refine s_mv ?_; (first | refine s_ix ?_ | refine s_ixi ?_); refine s_ld ?_; refine s_fA ?_; refine s_ld ?_; refine s_mv ?_
      (first | refine s_ix ?_ | refine s_ixi ?_); refine s_ld ?_; refine s_ib ?_; refine wpi_nil ?_
      repeat refine wp_seq ?_
      refine wp_cond rfl (fun h1 => ?_) (fun h1 => ?_)
      · repeat refine wp_seq ?_
        refine wp_ops ?_
        refine s_mv ?_; refine wpi_nil ?_
        repeat refine wp_seq ?_
        refine wp_ret ?_
        refine bad (bad2 fun hh => ?_) ?_ _
        · have := hh.1
          rw [looksHome, all_false hjt] at this
          · cases this
          · rw [hax, hati]; simpa using h1
        · repeat (first | exact SubE.nil | refine SubE.cons rfl ?_)
      · repeat refine wp_seq ?_
        refine wp_skip ?_
        repeat refine wp_seq ?_
        refine wp_ops ?_
        refine s_ad ?_; refine s_mv ?_; refine wpi_nil ?_
        refine ⟨rfl, hjt, (), all_take (p := fun k => decide (ati p.places k = ati p.trans i)) hjt hokj ?_, by repeat (first | exact SubE.nil | refine SubE.cons rfl ?_), by repeat (first | exact HLe.nil | (apply HLe.take; focus (repeat (first | exact Take.head | apply Take.tail))))⟩
        rw [hax, hati]; simpa using h1
    have hlook : looksHome p i T = true := all_done (p := fun k => decide (ati p.places k = ati p.trans i)) (by simpa using h1) hokj
    clear hokj h1
    repeat refine wp_seq ?_
    refine wp_exit ?_
    repeat refine wp_seq ?_
    refine wp_ops ?_
    refine s_fA ?_; refine s_ld ?_; refine s_ln ?_; refine s_mv ?_; refine wpi_nil ?_
    repeat refine wp_seq ?_
    refine wp_block ?_
    refine wp_loopX (α := Unit) T.outs.length (fun j _ => [(95, intN j), (94, intN T.outs.length), (93, ov), (10, .ptr b10 0), (9, intN i), (68, intN i), (67, intN n.trans.length), (66, .slc b o n.trans.length cap), (2, .ptr b2 0), (3, .ptr b3 0)])
      (fun _ _ => [pt b10 (.cells none false [.str T.name, .int .i64 T.delay, .int .i64 T.prio, iv, nv, ov]), pt b3 (.cells none false [.int .i64 p.n, pv1, .slc qb qo p.trans.length qcap]), pt b2 (.cells none false [nv1, .slc b o n.trans.length cap])])
      (fun j _ => ∀ k (hk : k < T.outs.length), k < j → (!(decide (T.delay = 0) && decide (ati p.places T.outs[k].place ≠ ati p.trans i))) = true) () (fun k _ h => by omega) (by repeat (first | exact SubE.nil | refine SubE.cons rfl ?_)) (by repeat (first | exact HLe.nil | (apply HLe.take; focus (repeat (first | exact Take.head | apply Take.tail))))) ?_
    rintro j - hjl hokj
    repeat refine wp_seq ?_
    refine wp_ops ?_
    refine s_ib ?_; refine wpi_nil ?_
    repeat refine wp_seq ?_
    refine wp_cond rfl (fun h1 => ?_) (fun h1 => ?_)
    · have hjt : j < T.outs.length := by simpa using h1
      clear h1
      obtain ⟨lb, lo, lcap, lop, lro, lc, rfl, m2, m5⟩ := Arcs.at' ho' hjt
      have hin : 0 ≤ T.outs[j].place ∧ T.outs[j].place < n.places.length := by
        have := hai T.outs[j] (by simp)
        omega
      have hpx : (T.outs[j].place).toNat < p.places.length := by omega
      obtain ⟨xb, xo, xcap, xop, xro, xc, rfl, x2, x5⟩ := Ints.at hp1s hpx
      have hax : ati p.places T.outs[j].place = p.places[(T.outs[j].place).toNat] := by unfold ati; rw [getD_lt hpx]
      have good : (!(decide (T.delay = 0) && decide (ati p.places T.outs[j].place ≠ ati p.trans i))) = true → ∀ k (hk : k < T.outs.length), k < j + 1 → (!(decide (T.delay = 0) && decide (ati p.places T.outs[k].place ≠ ati p.trans i))) = true :=
        fun h => all_take (p := fun a : Arc => !(decide (T.delay = 0) && decide (ati p.places a.place ≠ ati p.trans i))) hjt hokj h
      repeat refine wp_seq ?_
      refine wp_skip ?_
      refine wp_seq ?_
      repeat refine wp_seq ?_
      refine wp_block ?_
      repeat refine wp_seq ?_
      refine wp_ops ?_
      (first | refine s_ix ?_ | refine s_ixi ?_); refine s_ld ?_; refine wpi_alloc fun b14 => ?_; refine s_st ?_; refine wpi_nil ?_
      refine wp_seq ?_
      refine wp_ops ?_
      refine s_fA ?_; refine s_ld ?_; refine s_ib ?_; refine s_mv ?_
      refine wpi_case 102 rfl (fun h => ?_) (fun h => ?_)
      · have hd : T.delay = 0 := beq_of h
        first
          | refine s_gn ?_
          | refine s_gy ?_
            refine s_fA ?_
        first
          | refine s_gn ?_
          | refine s_gy ?_
            refine s_ld ?_
        first
          | refine s_gn ?_
          | refine s_gy ?_
            refine s_fA ?_
        first
          | refine s_gn ?_
          | refine s_gy ?_
            refine s_ld ?_
        first
          | refine s_gn ?_
          | refine s_gy ?_
            first | refine s_ix ?_ | refine s_ixi ?_
        first
          | refine s_gn ?_
          | refine s_gy ?_
            refine s_ld ?_
        first
          | refine s_gn ?_
          | refine s_gy ?_
            refine s_fA ?_
        first
          | refine s_gn ?_
          | refine s_gy ?_
            refine s_ld ?_
        first
          | refine s_gn ?_
          | refine s_gy ?_
            refine s_mv ?_
        first
          | refine s_gn ?_
          | refine s_gy ?_
            first | refine s_ix ?_ | refine s_ixi ?_
        first
          | refine s_gn ?_
          | refine s_gy ?_
            refine s_ld ?_
        first
          | refine s_gn ?_
          | refine s_gy ?_
            refine s_ib ?_
        (first | refine s_pt ?_ | refine s_pf ?_ | refine s_pb ?_); refine wpi_nil ?_
        repeat refine wp_seq ?_
        refine wp_cond rfl (fun h1 => ?_) (fun h1 => ?_)
        · repeat refine wp_seq ?_
          refine wp_ops ?_
          refine s_mv ?_; refine wpi_nil ?_
          repeat refine wp_seq ?_
          refine wp_ret ?_
          refine bad (bad2 fun hh => ?_) ?_ _
          · have h2 := hh.2
            rw [outsHome, all_false hjt] at h2
            · cases h2
            · have := ne_of h1
              rw [hax, hati]; simp [hd, this]
          · repeat (first | exact SubE.nil | refine SubE.cons rfl ?_)
        · have e := eq_of h1
          repeat refine wp_seq ?_
          refine wp_skip ?_
          repeat refine wp_seq ?_
          refine wp_ops ?_
          refine s_ad ?_; refine s_mv ?_; refine wpi_nil ?_
          refine ⟨rfl, hjt, (), good ?_, by repeat (first | exact SubE.nil | refine SubE.cons rfl ?_), by repeat (first | exact HLe.nil | (apply HLe.take; focus (repeat (first | exact Take.head | apply Take.tail))))⟩
          rw [hax, hati, e]; simp
      · have hd : T.delay ≠ 0 := nbeq_of h
        first
          | refine s_gn ?_
          | refine s_gy ?_
            refine s_fA ?_
        first
          | refine s_gn ?_
          | refine s_gy ?_
            refine s_ld ?_
        first
          | refine s_gn ?_
          | refine s_gy ?_
            refine s_fA ?_
        first
          | refine s_gn ?_
          | refine s_gy ?_
            refine s_ld ?_
        first
          | refine s_gn ?_
          | refine s_gy ?_
            first | refine s_ix ?_ | refine s_ixi ?_
        first
          | refine s_gn ?_
          | refine s_gy ?_
            refine s_ld ?_
        first
          | refine s_gn ?_
          | refine s_gy ?_
            refine s_fA ?_
        first
          | refine s_gn ?_
          | refine s_gy ?_
            refine s_ld ?_
        first
          | refine s_gn ?_
          | refine s_gy ?_
            refine s_mv ?_
        first
          | refine s_gn ?_
          | refine s_gy ?_
            first | refine s_ix ?_ | refine s_ixi ?_
        first
          | refine s_gn ?_
          | refine s_gy ?_
            refine s_ld ?_
        first
          | refine s_gn ?_
          | refine s_gy ?_
            refine s_ib ?_
        (first | refine s_pt ?_ | refine s_pf ?_ | refine s_pb ?_); refine wpi_nil ?_
        repeat refine wp_seq ?_
        refine wp_cond rfl (fun h1 => ?_) (fun h1 => ?_)
        · cases h1
        · repeat refine wp_seq ?_
          refine wp_skip ?_
          repeat refine wp_seq ?_
          refine wp_ops ?_
          refine s_ad ?_; refine s_mv ?_; refine wpi_nil ?_
          refine ⟨rfl, hjt, (), good ?_, by repeat (first | exact SubE.nil | refine SubE.cons rfl ?_), by repeat (first | exact HLe.nil | (apply HLe.take; focus (repeat (first | exact Take.head | apply Take.tail))))⟩
          simp [hd]
    have hout : outsHome p i T = true := all_done (p := fun a : Arc => !(decide (T.delay = 0) && decide (ati p.places a.place ≠ ati p.trans i))) (by simpa using h1) hokj
    repeat refine wp_seq ?_
    refine wp_exit ?_
    repeat refine wp_seq ?_
    refine wp_ops ?_
    refine s_ad ?_; refine s_mv ?_; refine wpi_nil ?_
    refine ⟨hlt, (), ?_, by repeat (first | exact SubE.nil | refine SubE.cons rfl ?_), by repeat (first | exact HLe.nil | (apply HLe.take; focus (repeat (first | exact Take.head | apply Take.tail))))⟩
    intro k hk hk2
    by_cases e : k = i
    · subst e; rw [hgd]; exact ⟨hlook, hout⟩
    · exact hok k hk (by omega)
  · have hi : i = n.trans.length := by
      have : ¬ (i : Int) < n.trans.length := of_decide_eq_false h1
      omega
    subst hi
    repeat refine wp_seq ?_
    refine wp_exit ?_
    repeat refine wp_seq ?_
    refine wp_ops ?_
    refine s_mv ?_; refine wpi_nil ?_
    repeat refine wp_seq ?_
    refine wp_ret ?_
    refine ⟨_, .tmp rfl .nil, [], HLe.nil, ?_, rfl⟩
    rw [partCheck, if_neg (not_not_intro hf), if_neg (not_not_intro hr), if_pos hok]; rfl

