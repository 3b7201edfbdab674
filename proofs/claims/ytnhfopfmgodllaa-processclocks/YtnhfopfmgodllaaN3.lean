/-
  A part of the proof: contracts of functions of the program, over the abstract machine.
-/
import Derived.Test.YtnhfopfmgodllaaN2
noncomputable section
namespace Go.Sl
open Go Go.Ab Cd
set_option linter.unusedVariables false
set_option linter.unusedSimpArgs false
set_option maxRecDepth 10000

def mineOf (p : Part) (id : Int) : List Bool := p.trans.map fun k => k == id
def awayOf (p : Part) (id : Int) : List Bool := p.places.map fun k => k != id
def insOf (L : List Lane) (id : Int) (k : Nat) : List Lane := (L.take k).filter fun l => l.dst == id
def outsOf (L : List Lane) (id : Int) (k : Nat) : List Lane := (L.take k).filter fun l => l.src == id
def hor (h : Int) : Int := minF false h 1099511627777
theorem insOf_succ {L : List Lane} {id : Int} {k : Nat} (h : k < L.length) : insOf L id (k + 1) = if L[k].dst == id then insOf L id k ++ [L[k]] else insOf L id k := by
  unfold insOf
  rw [List.take_succ_eq_append_getElem h, List.filter_append]
  simp only [List.filter_cons, List.filter_nil]
  cases L[k].dst == id <;> simp
theorem outsOf_succ {L : List Lane} {id : Int} {k : Nat} (h : k < L.length) : outsOf L id (k + 1) = if L[k].src == id then outsOf L id k ++ [L[k]] else outsOf L id k := by
  unfold outsOf
  rw [List.take_succ_eq_append_getElem h, List.filter_append]
  simp only [List.filter_cons, List.filter_nil]
  cases L[k].src == id <;> simp
theorem insOf_le (L : List Lane) (id : Int) (k : Nat) : (insOf L id k).length ≤ k := by unfold insOf; exact Nat.le_trans (List.length_filter_le _ _) (by simp; omega)
theorem outsOf_le (L : List Lane) (id : Int) (k : Nat) : (outsOf L id k).length ≤ k := by unfold outsOf; exact Nat.le_trans (List.length_filter_le _ _) (by simp; omega)
theorem compactL_le (xs : List Lane) : (compactL xs).length ≤ xs.length := compactTo_le _ _
theorem LanesR.le {raw L : List Lane} (h : LanesR raw L) : L.length ≤ raw.length := by
  obtain ⟨ys, h1, _, rfl⟩ := h
  have := compactL_le ys
  rw [h1.length_eq] at this; exact this
def zerosF (n : Nat) : List AV := (List.replicate n (0 : Int)).map intV
theorem zerosF_len (n : Nat) : (zerosF n).length = n := by simp [zerosF]
theorem zerosF_succ (n : Nat) : zerosF (n + 1) = zerosF n ++ [.int .i64 0] := by simp [zerosF, List.replicate_succ']

theorem boolBlk {G : GB} {b : Nat} {l : List Bool} {n : Nat} {cap : Option Nat} (h : G b = some (.cells none false (l.map boolV))) (hl : l.length = n) : SlL (Gr G) 1 boolC (.slc b 0 n cap) l := by
  subst hl
  refine SlL.of (f := fun x => [boolV x]) ⟨by rw [flat_one]; simp, .inr ⟨b, 0, cap, none, false, l.map boolV, rfl, h, ?_⟩⟩ (fun _ _ => rfl) (fun _ => rfl)
  rw [flat_one, Nat.mul_one]
  have := slice?_all (l.map boolV)
  rwa [List.length_map] at this

/-- A process's own cells, and its lanes'. -/
@[reducible] def procC (id pn : Int) (xv pv1 pv2 iv ov cv sv : AV) (h : Int) (bg dn : Bool) : List AV := [.int .i64 id, xv, .int .i64 pn, pv1, pv2, iv, ov, cv, sv, .int .i64 h, .bool bg, .bool dn]

theorem ct_ProcNew {G : GB} {nv pv : AV} {n : Net} {p : Part} {id h : Int} (hN : netR (Gr G) nv n) (hO : n.ok) (hP : partR (Gr G) pv p) (hpl : p.places.length < 1000) (hpt : p.trans.length < 1000)
    (hm : partCheck n p = 0 → (rawLanes n p).length ≤ mostLanes) :
    Ct prog n_process_New [nv, pv, .int .i64 id, .int .i64 h] G [] (fun v G' H' =>
      (partCheck n p ≠ 0 → v = .tup [.nilp, .int .i64 (partCheck n p)] ∧ H' = []) ∧ (partCheck n p = 0 → ¬ (0 ≤ id ∧ id < p.n) → v = .tup [.nilp, .int .i64 1] ∧ H' = []) ∧
      (partCheck n p = 0 → 0 ≤ id → id < p.n → ∃ b11, v = .tup [.ptr b11 0, .int .i64 0] ∧ ∃ nv1 nv2 pv1 pv2 mv av b32 b20 b24 b26 b30 iv ov cv sv, nv = .agg [nv1, nv2] ∧ pv = .agg [.int .i64 p.n, pv1, pv2] ∧ SlL (Gr G') 1 boolC mv (mineOf p id) ∧ SlL (Gr G') 1 boolC av (awayOf p id) ∧
        ∃ l : List (AV × List Nat), l.map (·.2) = near n (mineOf p id) ∧ ∃ L, LanesR (rawLanes n p) L ∧
        H' = slA 3 iv (insOf L id L.length).length ((insOf L id L.length).flatMap laneF) :: slA 1 cv (insOf L id L.length).length (zerosF (insOf L id L.length).length) :: slA 3 ov (outsOf L id L.length).length ((outsOf L id L.length).flatMap laneF) :: slA 1 sv (outsOf L id L.length).length (zerosF (outsOf L id L.length).length) ::
          pt b11 (.cells none false (procC id p.n (.iface 98 (.ptr b32 0)) pv1 pv2 iv ov cv sv (hor h) false false)) :: newH b32 b20 b24 b26 b30 nv1 nv2 mv av n l (ready0 n (mineOf p id)))) := by
  obtain ⟨nv1, nv2, rfl, hn1, hn2⟩ := hN
  obtain ⟨pv1, pv2, rfl, hp1, hp2⟩ := hP
  have hN : netR (Gr G) (.agg [nv1, nv2]) n := ⟨nv1, nv2, rfl, hn1, hn2⟩
  have hP : partR (Gr G) (.agg [.int .i64 p.n, pv1, pv2]) p := ⟨pv1, pv2, rfl, hp1, hp2⟩
  have l1 := hn1.len
  have l2 := hn2.len
  have hs1 := hO.places
  have hs2 := hO.trans
  refine ct_body (fn := f_process_New) rfl rfl rfl ?_
  repeat refine wp_seq ?_
  refine wp_ops ?_
  refine s_bx fun b4 => ?_; refine s_bx fun b5 => ?_; refine s_mv ?_; refine s_mv ?_; refine wpi_nil ?_
  repeat refine wp_seq ?_
  refine wp_ops ?_
  refine s_ld ?_; refine s_ld ?_
  refine wpi_callF rfl (ct_PCheck hN hO hP hpl hpt) (by repeat (first | exact HLe.splitNil | (apply HLe.splitCons; focus (repeat (first | exact Take.head | apply Take.tail))))) ?_
  rintro v22 G22 H22 le22 ⟨rfl, rfl⟩
  try simp only [List.nil_append, List.cons_append]
  refine s_mv ?_; refine wpi_nil ?_
  repeat refine wp_seq ?_
  refine wp_ops ?_
  refine s_mv ?_; refine s_ib ?_; refine wpi_nil ?_
  repeat refine wp_seq ?_
  refine wp_cond rfl (fun h1 => ?_) (fun h1 => ?_)
  · have hne := ne_of h1
    repeat refine wp_seq ?_
    refine wp_ops ?_
    refine s_mv ?_; refine s_mv ?_; refine s_mv ?_; refine wpi_nil ?_
    repeat refine wp_seq ?_
    refine wp_ret ?_
    exact ⟨_, .tmp rfl (.tmp rfl .nil), [], HLe.nil, fun _ => ⟨rfl, rfl⟩, fun h => absurd h hne, fun h => absurd h hne⟩
  have h0 : partCheck n p = 0 := eq_of h1
  have hm0 := hm h0
  obtain ⟨⟨e1, e2, e3, e4⟩, _, _, _⟩ := partCheck_zero h0
  clear h1 hm
  replace hN := hN.mono (Gr.le le22)
  replace hP := hP.mono (Gr.le le22)
  replace hn1 := hn1.mono (Gr.le le22) (fun _ _ h => h)
  replace hp1 := hp1.mono (Gr.le le22) (fun _ _ h => h)
  replace hp2 := hp2.mono (Gr.le le22) (fun _ _ h => h)
  clear hn2 le22
  repeat refine wp_seq ?_
  refine wp_skip ?_
  refine wp_seq ?_
  refine wp_seq ?_
  refine wp_ops ?_
  refine s_mv ?_; refine s_ib ?_; refine s_mv ?_
  have out : ¬ (0 ≤ id ∧ id < p.n) → ∀ {G' E H}, SubE E [(8, .nilp), (9, .int .i64 1)] → ∃ vs, Res G' E H f_process_New.res vs ∧ ∃ H', HLe G' H H' ∧ ((partCheck n p ≠ 0 → asOne vs = .tup [.nilp, .int .i64 (partCheck n p)] ∧ H' = []) ∧ (partCheck n p = 0 → ¬ (0 ≤ id ∧ id < p.n) → asOne vs = .tup [.nilp, .int .i64 1] ∧ H' = []) ∧
      (partCheck n p = 0 → 0 ≤ id → id < p.n → ∃ b11, asOne vs = .tup [.ptr b11 0, .int .i64 0] ∧ ∃ nv1' nv2' pv1' pv2' mv av b32 b20 b24 b26 b30 iv ov cv sv, AV.agg [nv1, nv2] = .agg [nv1', nv2'] ∧ AV.agg [.int .i64 p.n, pv1, pv2] = .agg [.int .i64 p.n, pv1', pv2'] ∧ SlL (Gr G') 1 boolC mv (mineOf p id) ∧ SlL (Gr G') 1 boolC av (awayOf p id) ∧
        ∃ l : List (AV × List Nat), l.map (·.2) = near n (mineOf p id) ∧ ∃ L, LanesR (rawLanes n p) L ∧
        H' = slA 3 iv (insOf L id L.length).length ((insOf L id L.length).flatMap laneF) :: slA 1 cv (insOf L id L.length).length (zerosF (insOf L id L.length).length) :: slA 3 ov (outsOf L id L.length).length ((outsOf L id L.length).flatMap laneF) :: slA 1 sv (outsOf L id L.length).length (zerosF (outsOf L id L.length).length) ::
          pt b11 (.cells none false (procC id p.n (.iface 98 (.ptr b32 0)) pv1' pv2' iv ov cv sv (hor h) false false)) :: newH b32 b20 b24 b26 b30 nv1' nv2' mv av n l (ready0 n (mineOf p id)))) :=
    fun hid G' E H hs => ⟨_, .tmp (hs 8 _ rfl) (.tmp (hs 9 _ rfl) .nil), [], HLe.nil, fun h => absurd h0 h, fun _ _ => ⟨rfl, rfl⟩, fun _ a b => absurd ⟨a, b⟩ hid⟩
  refine wpi_case 28 rfl (fun h => ?_) (fun h => ?_)
  · have hid : ¬ (0 ≤ id ∧ id < p.n) := by have := of_decide_eq_true h; omega
    first
      | refine s_gn ?_
      | refine s_gy ?_
        refine s_mv ?_
    first
      | refine s_gn ?_
      | refine s_gy ?_
        refine s_fA ?_
    first
      | refine s_gn ?_
      | refine s_gy ?_
        refine s_ld ?_
    first
      | refine s_gn ?_
      | refine s_gy ?_
        refine s_ib ?_
    (first | refine s_pt ?_ | refine s_pf ?_ | refine s_pb ?_); refine wpi_nil ?_
    repeat refine wp_seq ?_
    refine wp_cond rfl (fun h1 => ?_) (fun h1 => ?_)
    · repeat refine wp_seq ?_
      refine wp_ops ?_
      refine s_mv ?_; refine s_mv ?_; refine wpi_nil ?_
      repeat refine wp_seq ?_
      refine wp_ret ?_
      refine out hid ?_
      repeat (first | exact SubE.nil | refine SubE.cons rfl ?_)
    · cases h1
  have i1 : 0 ≤ id := by have := of_decide_eq_false h; omega
  first
    | refine s_gn ?_
    | refine s_gy ?_
      refine s_mv ?_
  first
    | refine s_gn ?_
    | refine s_gy ?_
      refine s_fA ?_
  first
    | refine s_gn ?_
    | refine s_gy ?_
      refine s_ld ?_
  first
    | refine s_gn ?_
    | refine s_gy ?_
      refine s_ib ?_
  (first | refine s_pt ?_ | refine s_pf ?_ | refine s_pb ?_); refine wpi_nil ?_
  repeat refine wp_seq ?_
  refine wp_cond rfl (fun h1 => ?_) (fun h1 => ?_)
  · have hid : ¬ (0 ≤ id ∧ id < p.n) := by have := of_decide_eq_true h1; omega
    repeat refine wp_seq ?_
    refine wp_ops ?_
    refine s_mv ?_; refine s_mv ?_; refine wpi_nil ?_
    repeat refine wp_seq ?_
    refine wp_ret ?_
    refine out hid ?_
    repeat (first | exact SubE.nil | refine SubE.cons rfl ?_)
  have i2 : id < p.n := by have := of_decide_eq_false h1; omega
  clear h1 h out
  have op1 := hp1.one
  have op2 := hp2.one
  have hfill : fill [.int .i64 0, .nilIface, .int .i64 0, .nils, .nils, .nils, .nils, .nils, .nils, .int .i64 0, .bool false, .bool false] [(0, 1, .int .i64 id), (2, 3, .agg [.int .i64 p.n, pv1, pv2]), (9, 1, .int .i64 (hor h))] = some (procC id p.n .nilIface pv1 pv2 .nils .nils .nils .nils (hor h) false false) := rfl
  have hmin : minI false (.int .i64 h) [.int .i64 1099511627777] = some (.int .i64 (hor h)) := rfl
  repeat refine wp_seq ?_
  refine wp_skip ?_
  repeat refine wp_seq ?_
  refine wp_ops ?_
  refine s_mv ?_; refine s_ld ?_; refine s_mv ?_; refine s_mn ?_; refine s_bu ?_; refine s_bx fun b39 => ?_; refine s_mv ?_; refine wpi_nil ?_
  have l3 := hp1.len
  have l4 := hp2.len
  repeat refine wp_seq ?_
  refine wp_ops ?_
  refine s_fA ?_; refine s_ld ?_; refine s_ln ?_; refine s_mk fun b43 => ?_; refine s_fA ?_; refine s_ld ?_; refine s_ln ?_; refine s_mk fun b47 => ?_; refine s_mv ?_; refine s_mv ?_
  refine wpi_nil ?_
  have r1 : repl [AV.bool false] n.trans.length = ((mineOf p id).take 0 ++ List.replicate (n.trans.length - 0) false).map boolV := by rw [repl_one (f := boolV) (x := false)]; simp
  have r2 : repl [AV.bool false] n.places.length = ((awayOf p id).take 0 ++ List.replicate (n.places.length - 0) false).map boolV := by rw [repl_one (f := boolV) (x := false)]; simp
  rw [r1, r2]
  have lm : (mineOf p id).length = n.trans.length := by simp [mineOf, e2]
  have la : (awayOf p id).length = n.places.length := by simp [awayOf, e1]
  repeat refine wp_seq ?_
  refine wp_ops ?_
  refine s_fA ?_; refine s_ld ?_; refine s_ln ?_; refine s_mv ?_; refine wpi_nil ?_
  repeat refine wp_seq ?_
  refine wp_block ?_
  refine wp_loopX (α := Unit) p.trans.length (fun i _ => [(51, intN i), (50, intN p.trans.length), (49, pv2), (12, .slc b43 0 n.trans.length (some n.trans.length)), (13, .slc b47 0 n.places.length (some n.places.length)), (11, .ptr b39 0), (2, .int .i64 id), (4, .ptr b4 0), (5, .ptr b5 0)])
    (fun i _ => [pt b43 (.cells none false (((mineOf p id).take i ++ List.replicate (n.trans.length - i) false).map boolV)), pt b47 (.cells none false (((awayOf p id).take 0 ++ List.replicate (n.places.length - 0) false).map boolV)), pt b39 (.cells none false (procC id p.n .nilIface pv1 pv2 .nils .nils .nils .nils (hor h) false false)), pt b5 (.cells none false [.int .i64 p.n, pv1, pv2]), pt b4 (.cells none false [nv1, nv2])])
    (fun _ _ => True) () trivial (by repeat (first | exact SubE.nil | refine SubE.cons rfl ?_)) (by repeat (first | exact HLe.nil | (apply HLe.take; focus (repeat (first | exact Take.head | apply Take.tail))))) ?_
  rintro i - hil -
  repeat refine wp_seq ?_
  refine wp_ops ?_
  refine s_ib ?_; refine wpi_nil ?_
  repeat refine wp_seq ?_
  refine wp_cond rfl (fun h1 => ?_) (fun h1 => ?_)
  · have hlt : i < p.trans.length := by simpa using h1
    clear h1
    obtain ⟨b, o, cap, op', ro, c, rfl, k2, k5⟩ := Ints.at hp2 hlt
    have hst : splice (((mineOf p id).take i ++ List.replicate (n.trans.length - i) false).map boolV) (0 + i * 1) [boolV (p.trans[i] == id)] = some (((mineOf p id).take (i + 1) ++ List.replicate (n.trans.length - (i + 1)) false).map boolV) := by
      rw [splice_set1 (f := boolV) (by simp; omega)]
      have := set_take (z := false) lm (i := i) (by omega)
      rw [← this]; simp [mineOf]
    repeat refine wp_seq ?_
    refine wp_skip ?_
    refine wp_seq ?_
    repeat refine wp_seq ?_
    refine wp_block ?_
    repeat refine wp_seq ?_
    refine wp_ops ?_
    refine s_mv ?_; (first | refine s_ix ?_ | refine s_ixi ?_); refine s_ld ?_; refine s_mv ?_; refine s_mv ?_; refine wpi_nil ?_
    repeat refine wp_seq ?_
    refine wp_ops ?_
    refine s_mv ?_; refine s_mv ?_; refine s_mv ?_; refine s_mv ?_; refine s_ib ?_; (first | refine s_ix ?_ | refine s_ixi ?_); refine s_s1 ?_; refine wpi_nil ?_
    repeat refine wp_seq ?_
    refine wp_ops ?_
    refine s_ad ?_; refine s_mv ?_; refine wpi_nil ?_
    exact ⟨rfl, hlt, (), trivial, by repeat (first | exact SubE.nil | refine SubE.cons rfl ?_), by repeat (first | exact HLe.nil | (apply HLe.take; focus (repeat (first | exact Take.head | apply Take.tail))))⟩
  have hi : i = p.trans.length := by
    have : ¬ (i : Int) < p.trans.length := of_decide_eq_false h1
    omega
  subst hi
  clear h1 hil
  rw [show (mineOf p id).take p.trans.length ++ List.replicate (n.trans.length - p.trans.length) false = mineOf p id by rw [e2, Nat.sub_self, ← lm, List.take_length]; simp]
  repeat refine wp_seq ?_
  refine wp_exit ?_
  repeat refine wp_seq ?_
  refine wp_ops ?_
  refine s_fA ?_; refine s_ld ?_; refine s_ln ?_; refine s_mv ?_; refine wpi_nil ?_
  repeat refine wp_seq ?_
  refine wp_block ?_
  refine wp_loopX (α := Unit) p.places.length (fun i _ => [(66, intN i), (65, intN p.places.length), (64, pv1), (12, .slc b43 0 n.trans.length (some n.trans.length)), (13, .slc b47 0 n.places.length (some n.places.length)), (11, .ptr b39 0), (2, .int .i64 id), (4, .ptr b4 0), (5, .ptr b5 0)])
    (fun i _ => [pt b43 (.cells none false ((mineOf p id).map boolV)), pt b47 (.cells none false (((awayOf p id).take i ++ List.replicate (n.places.length - i) false).map boolV)), pt b39 (.cells none false (procC id p.n .nilIface pv1 pv2 .nils .nils .nils .nils (hor h) false false)), pt b5 (.cells none false [.int .i64 p.n, pv1, pv2]), pt b4 (.cells none false [nv1, nv2])])
    (fun _ _ => True) () trivial (by repeat (first | exact SubE.nil | refine SubE.cons rfl ?_)) (by repeat (first | exact HLe.nil | (apply HLe.take; focus (repeat (first | exact Take.head | apply Take.tail))))) ?_
  rintro i - hil -
  repeat refine wp_seq ?_
  refine wp_ops ?_
  refine s_ib ?_; refine wpi_nil ?_
  repeat refine wp_seq ?_
  refine wp_cond rfl (fun h1 => ?_) (fun h1 => ?_)
  · have hlt : i < p.places.length := by simpa using h1
    clear h1
    obtain ⟨b, o, cap, op', ro, c, rfl, k2, k5⟩ := Ints.at hp1 hlt
    have hst : splice (((awayOf p id).take i ++ List.replicate (n.places.length - i) false).map boolV) (0 + i * 1) [boolV (p.places[i] != id)] = some (((awayOf p id).take (i + 1) ++ List.replicate (n.places.length - (i + 1)) false).map boolV) := by
      rw [splice_set1 (f := boolV) (by simp; omega)]
      have := set_take (z := false) la (i := i) (by omega)
      rw [← this]; simp [awayOf]
    repeat refine wp_seq ?_
    refine wp_skip ?_
    refine wp_seq ?_
    repeat refine wp_seq ?_
    refine wp_block ?_
    repeat refine wp_seq ?_
    refine wp_ops ?_
    refine s_mv ?_; (first | refine s_ix ?_ | refine s_ixi ?_); refine s_ld ?_; refine s_mv ?_; refine s_mv ?_; refine wpi_nil ?_
    repeat refine wp_seq ?_
    refine wp_ops ?_
    refine s_mv ?_; refine s_mv ?_; refine s_mv ?_; refine s_mv ?_; refine s_ib ?_; (first | refine s_ix ?_ | refine s_ixi ?_); refine s_s1 ?_; refine wpi_nil ?_
    repeat refine wp_seq ?_
    refine wp_ops ?_
    refine s_ad ?_; refine s_mv ?_; refine wpi_nil ?_
    exact ⟨rfl, hlt, (), trivial, by repeat (first | exact SubE.nil | refine SubE.cons rfl ?_), by repeat (first | exact HLe.nil | (apply HLe.take; focus (repeat (first | exact Take.head | apply Take.tail))))⟩
  have hi : i = p.places.length := by
    have : ¬ (i : Int) < p.places.length := of_decide_eq_false h1
    omega
  subst hi
  clear h1 hil
  rw [show (awayOf p id).take p.places.length ++ List.replicate (n.places.length - p.places.length) false = awayOf p id by rw [e1, Nat.sub_self, ← la, List.take_length]; simp]
  repeat refine wp_seq ?_
  refine wp_exit ?_
  refine Wp.freeze (by repeat (first | exact Take.head | apply Take.tail)) fun leA => ?_
  refine Wp.freeze (by repeat (first | exact Take.head | apply Take.tail)) fun leB => ?_
  have hM0 := boolBlk (cap := some n.trans.length) (leB _ _ (putG_same ..)) lm
  have hA0 := boolBlk (G := putG (putG G22 b43 (.cells none false ((mineOf p id).map boolV))) b47 (.cells none false ((awayOf p id).map boolV))) (cap := some n.places.length) (putG_same ..) la
  replace hN := hN.mono (Gr.le (leA.trans leB))
  replace hP := hP.mono (Gr.le (leA.trans leB))
  clear hn1 hp1 hp2
  generalize putG (putG G22 b43 (.cells none false ((mineOf p id).map boolV))) b47 (.cells none false ((awayOf p id).map boolV)) = GG at *
  refine wp_seq ?_
  refine wp_ops ?_
  refine s_mv ?_; refine s_ld ?_; refine s_mv ?_; refine s_mv ?_
  refine wpi_callF rfl (ct_SwiftNew hN hO hM0 hA0) (by repeat (first | exact HLe.splitNil | (apply HLe.splitCons; focus (repeat (first | exact Take.head | apply Take.tail))))) ?_
  rintro v82 G82 H82 le82 ⟨nv1', nv2', b32, b20, b24, b26, b30, heq, rfl, l, hl, rfl⟩
  try simp only [List.nil_append, List.cons_append]
  obtain ⟨rfl, rfl⟩ : nv1 = nv1' ∧ nv2 = nv2' := by simpa using heq
  refine s_mi ?_; (first | refine s_nc ?_ | refine s_ncf ?_ | refine s_nci ?_); refine s_fA ?_; refine s_s1 ?_; refine wpi_nil ?_
  replace hN := hN.mono (Gr.le le82)
  replace hP := hP.mono (Gr.le le82)
  repeat refine wp_seq ?_
  refine wp_ops ?_
  refine s_ld ?_; refine s_ld ?_
  refine wpi_callF rfl (ct_LaneOf hN hO hP hpl hpt (fun _ => hm0)) (by repeat (first | exact HLe.splitNil | (apply HLe.splitCons; focus (repeat (first | exact Take.head | apply Take.tail))))) ?_
  rintro v88 G88 H88 le88 ⟨rfl, L, hL, hLr⟩
  try simp only [List.nil_append, List.cons_append]
  refine s_ln ?_; refine s_mv ?_; refine wpi_nil ?_
  rw [if_pos h0] at hLr
  have hLle := hLr.le
  have hmost : mostLanes ≤ 1000 := by unfold mostLanes; omega
  refine Wp.hle (HLe.nilS (es := 3)) ?_
  refine Wp.hle (HLe.nilS (es := 1)) ?_
  refine Wp.hle (HLe.nilS (es := 3)) ?_
  refine Wp.hle (HLe.nilS (es := 1)) ?_
  repeat refine wp_seq ?_
  refine wp_block ?_
  refine wp_loopX (α := AV × AV × AV × AV) L.length (fun k _ => [(90, intN k), (89, intN L.length), (88, v88), (11, .ptr b39 0), (2, .int .i64 id)])
    (fun k x => slA 3 x.1 (insOf L id k).length ((insOf L id k).flatMap laneF) :: slA 1 x.2.1 (insOf L id k).length (zerosF (insOf L id k).length) :: slA 3 x.2.2.1 (outsOf L id k).length ((outsOf L id k).flatMap laneF) :: slA 1 x.2.2.2 (outsOf L id k).length (zerosF (outsOf L id k).length) ::
          pt b39 (.cells none false (procC id p.n (.iface 98 (.ptr b32 0)) pv1 pv2 x.1 x.2.2.1 x.2.1 x.2.2.2 (hor h) false false)) :: newH b32 b20 b24 b26 b30 nv1 nv2 (.slc b43 0 n.trans.length (some n.trans.length)) (.slc b47 0 n.places.length (some n.places.length)) n l (ready0 n (mineOf p id)))
    (fun _ _ => True) (.nils, .nils, .nils, .nils) trivial (by repeat (first | exact SubE.nil | refine SubE.cons rfl ?_)) (by repeat (first | exact HLe.nil | (apply HLe.take; focus (repeat (first | exact Take.head | apply Take.tail))))) ?_
  rintro k ⟨iv, cv, ov, sv⟩ hkl -
  repeat refine wp_seq ?_
  refine wp_ops ?_
  refine s_ib ?_; refine wpi_nil ?_
  repeat refine wp_seq ?_
  refine wp_cond rfl (fun h1 => ?_) (fun h1 => ?_)
  · have hlt : k < L.length := by simpa using h1
    clear h1
    obtain ⟨b, o, cap, op', ro, c, y, rfl, k2, k3, k4, k5, k6⟩ := hL.at hlt
    obtain rfl : y = _ := k3
    have hins := insOf_succ (id := id) hlt
    have houts := outsOf_succ (id := id) hlt
    have hil := insOf_le L id k
    have hol := outsOf_le L id k
    generalize L[k] = A at *
    have hz1 := zerosF_len (insOf L id k).length
    have hz2 := zerosF_len (outsOf L id k).length
    have hf1 := flat_len laneF_len (insOf L id k)
    have hf2 := flat_len laneF_len (outsOf L id k)
    have hsz : k < 1000 := by omega
    repeat refine wp_seq ?_
    refine wp_skip ?_
    refine wp_seq ?_
    repeat refine wp_seq ?_
    refine wp_block ?_
    repeat refine wp_seq ?_
    refine wp_ops ?_
    (first | refine s_ix ?_ | refine s_ixi ?_); refine s_ld ?_; refine wpi_alloc fun b19 => ?_; refine s_st ?_; refine wpi_nil ?_
    refine wp_joinX (α := AV × AV) (fun _ => [(19, .ptr b19 0), (90, intN k), (89, intN L.length), (88, .slc b o L.length cap), (11, .ptr b39 0), (2, .int .i64 id)])
      (fun x => slA 3 x.1 (insOf L id (k + 1)).length ((insOf L id (k + 1)).flatMap laneF) :: slA 1 x.2 (insOf L id (k + 1)).length (zerosF (insOf L id (k + 1)).length) :: slA 3 ov (outsOf L id k).length ((outsOf L id k).flatMap laneF) :: slA 1 sv (outsOf L id k).length (zerosF (outsOf L id k).length) :: pt b19 (.cells none false (laneF A)) ::
          pt b39 (.cells none false (procC id p.n (.iface 98 (.ptr b32 0)) pv1 pv2 x.1 ov x.2 sv (hor h) false false)) :: newH b32 b20 b24 b26 b30 nv1 nv2 (.slc b43 0 n.trans.length (some n.trans.length)) (.slc b47 0 n.places.length (some n.places.length)) n l (ready0 n (mineOf p id))) (fun _ => True) ?_ ?_
    · repeat refine wp_seq ?_
      refine wp_ops ?_
      refine s_fA ?_; refine s_ld ?_; refine s_mv ?_; refine s_ib ?_; refine wpi_nil ?_
      repeat refine wp_seq ?_
      refine wp_cond rfl (fun h1 => ?_) (fun h1 => ?_)
      · rw [if_pos h1] at hins
        repeat refine wp_seq ?_
        refine wp_ops ?_
        refine s_mv ?_; refine s_mv ?_; refine s_mv ?_; (first | refine s_nc ?_ | refine s_ncf ?_ | refine s_nci ?_); refine s_fA ?_; refine s_ld ?_; refine s_ld ?_
        refine s_bs fun b105 => ?_; refine s_mv ?_; (first | refine s_nc ?_ | refine s_ncf ?_ | refine s_nci ?_); refine s_fA ?_; refine s_ld ?_; refine s_bs fun b111 => ?_
        refine s_ap fun v106 f106 => ?_; refine s_rc ?_; refine s_ap fun v112 f112 => ?_; (first | refine s_nc ?_ | refine s_ncf ?_ | refine s_nci ?_); refine s_fA ?_; refine s_s1 ?_
        (first | refine s_nc ?_ | refine s_ncf ?_ | refine s_nci ?_); refine s_fA ?_; refine s_s1 ?_; refine wpi_nil ?_
        refine ⟨rfl, (v106, v112), trivial, by repeat (first | exact SubE.nil | refine SubE.cons rfl ?_), ?_⟩
        have g1 : (insOf L id (k + 1)).length = (insOf L id k).length + 1 := by rw [hins]; simp
        have g2 : (insOf L id (k + 1)).flatMap laneF = (insOf L id k).flatMap laneF ++ laneF A := by rw [hins, List.flatMap_append]; simp
        rw [g1, g2, zerosF_succ]; repeat (first | exact HLe.nil | (apply HLe.take; focus (repeat (first | exact Take.head | apply Take.tail))))
      · rw [if_neg (by rw [h1]; nofun)] at hins
        repeat refine wp_seq ?_
        refine wp_skip ?_
        refine ⟨rfl, (iv, cv), trivial, by repeat (first | exact SubE.nil | refine SubE.cons rfl ?_), ?_⟩
        rw [hins]; repeat (first | exact HLe.nil | (apply HLe.take; focus (repeat (first | exact Take.head | apply Take.tail))))
    rintro ⟨iv', cv'⟩ -
    repeat refine wp_seq ?_
    refine wp_ops ?_
    refine s_fA ?_; refine s_ld ?_; refine s_mv ?_; refine s_ib ?_; refine wpi_nil ?_
    repeat refine wp_seq ?_
    refine wp_cond rfl (fun h1 => ?_) (fun h1 => ?_)
    · rw [if_pos h1] at houts
      repeat refine wp_seq ?_
      refine wp_ops ?_
      refine s_mv ?_; refine s_mv ?_; refine s_mv ?_; (first | refine s_nc ?_ | refine s_ncf ?_ | refine s_nci ?_); refine s_fA ?_; refine s_ld ?_; refine s_ld ?_
      refine s_bs fun b128 => ?_; refine s_mv ?_; (first | refine s_nc ?_ | refine s_ncf ?_ | refine s_nci ?_); refine s_fA ?_; refine s_ld ?_; refine s_bs fun b134 => ?_
      refine s_ap fun v129 f129 => ?_; refine s_rc ?_; refine s_ap fun v135 f135 => ?_; (first | refine s_nc ?_ | refine s_ncf ?_ | refine s_nci ?_); refine s_fA ?_; refine s_s1 ?_
      (first | refine s_nc ?_ | refine s_ncf ?_ | refine s_nci ?_); refine s_fA ?_; refine s_s1 ?_; refine wpi_nil ?_
      repeat refine wp_seq ?_
      refine wp_ops ?_
      refine s_ad ?_; refine s_mv ?_; refine wpi_nil ?_
      refine ⟨rfl, hlt, (iv', cv', v129, v135), trivial, by repeat (first | exact SubE.nil | refine SubE.cons rfl ?_), ?_⟩
      have g1 : (outsOf L id (k + 1)).length = (outsOf L id k).length + 1 := by rw [houts]; simp
      have g2 : (outsOf L id (k + 1)).flatMap laneF = (outsOf L id k).flatMap laneF ++ laneF A := by rw [houts, List.flatMap_append]; simp
      rw [g1, g2, zerosF_succ]; repeat (first | exact HLe.nil | (apply HLe.take; focus (repeat (first | exact Take.head | apply Take.tail))))
    · rw [if_neg (by rw [h1]; nofun)] at houts
      repeat refine wp_seq ?_
      refine wp_skip ?_
      repeat refine wp_seq ?_
      refine wp_ops ?_
      refine s_ad ?_; refine s_mv ?_; refine wpi_nil ?_
      refine ⟨rfl, hlt, (iv', cv', ov, sv), trivial, by repeat (first | exact SubE.nil | refine SubE.cons rfl ?_), ?_⟩
      rw [houts]; repeat (first | exact HLe.nil | (apply HLe.take; focus (repeat (first | exact Take.head | apply Take.tail))))
  have hk : k = L.length := by
    have : ¬ (k : Int) < L.length := of_decide_eq_false h1
    omega
  subst hk
  repeat refine wp_seq ?_
  refine wp_exit ?_
  repeat refine wp_seq ?_
  refine wp_ops ?_
  refine s_mv ?_; refine s_mv ?_; refine s_mv ?_; refine wpi_nil ?_
  repeat refine wp_seq ?_
  refine wp_ret ?_
  refine ⟨_, .tmp rfl (.tmp rfl .nil), _, HLe.refl, fun h => absurd h0 h, fun _ h => absurd ⟨i1, i2⟩ h, fun _ _ _ => ⟨b39, rfl, nv1, nv2, pv1, pv2, _, _, b32, b20, b24, b26, b30, iv, ov, cv, sv, rfl, rfl, hM0.mono (Gr.le (le82.trans le88)) (fun _ _ h => h), hA0.mono (Gr.le (le82.trans le88)) (fun _ _ h => h), l, hl, L, hLr, rfl⟩⟩

