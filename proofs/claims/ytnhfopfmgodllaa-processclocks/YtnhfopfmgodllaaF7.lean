/-
  A part of the proof: contracts of functions of the program, over the abstract machine.
-/
import Derived.Test.YtnhfopfmgodllaaF6
noncomputable section
namespace Go.Sl
open Go Go.Ab Cd
set_option linter.unusedVariables false
set_option linter.unusedSimpArgs false
set_option maxRecDepth 10000

structure Part where
  n : Int
  places : List Int
  trans : List Int
def partR (D : RD) (v : AV) (p : Part) : Prop := ∃ a b, v = .agg [.int .i64 p.n, a, b] ∧ Ints D a p.places ∧ Ints D b p.trans
theorem partR.mono {D D' : RD} (le : RLe D D') {v p} (h : partR D v p) : partR D' v p := by
  obtain ⟨a, b, h1, h2, h3⟩ := h
  exact ⟨a, b, h1, h2.mono le fun _ _ x => x, h3.mono le fun _ _ x => x⟩
def splitPart (n : Net) (x : Nat) (bys : List Nat) : Part := ⟨splitN x, (split n x bys).1.map fun (k : Nat) => (k : Int), (split n x bys).2.map fun (k : Nat) => (k : Int)⟩

theorem ct_split {G : GB} {nv bv : AV} {n : Net} {x : Nat} {bys : List Nat} (hN : netR (Gr G) nv n) (hs : n.small) (hB : SlL (Gr G) 1 byteC bv bys) (hx : x < 256) (hb : ∀ b ∈ bys, b < 256) :
    Ct prog n_law19_split [nv, .int .u8 (x : Int), bv] G [] (fun v G' H' => partR (Gr G') v (splitPart n x bys) ∧ H' = []) := by
  obtain ⟨pv, tv, rfl, hpl, htl⟩ := hN
  have hN : netR (Gr G) (.agg [pv, tv]) n := ⟨pv, tv, rfl, hpl, htl⟩
  refine ct_body (fn := f_law19_split) rfl rfl rfl ?_
  repeat refine wp_seq ?_
  refine wp_ops ?_
  refine s_bx fun b3 => ?_; refine wpi_alloc fun b6 => ?_; refine wpi_nil ?_
  repeat refine wp_seq ?_
  refine wp_ops ?_
  refine s_ld ?_; refine s_mv ?_; refine s_mv ?_
  refine wpi_callF rfl (ct_Split hN hs hB hx hb) (by repeat (first | exact HLe.splitNil | (apply HLe.splitCons; focus (repeat (first | exact Take.head | apply Take.tail))))) ?_
  rintro v14 G14 H14 le14 ⟨p, t, rfl, hp, ht, rfl⟩
  try simp only [List.nil_append, List.cons_append]
  refine s_mv ?_; refine s_ex ?_; refine s_ex ?_; refine s_ex ?_; refine s_mv ?_; refine s_mv ?_; refine s_mv ?_; refine wpi_nil ?_
  have op : One p := hp.one
  have ot : One t := ht.one
  have hfill : fill [.int .i64 0, .nils, .nils] [(0, 1, intN (splitN x)), (1, 1, p), (2, 1, t)] = some [intN (splitN x), p, t] := by
    simp only [fill_cons One.int, fill_cons op, fill_cons ot]; rfl
  repeat refine wp_seq ?_
  refine wp_ops ?_
  refine s_mv ?_; refine s_mv ?_; refine s_mv ?_; refine s_bu ?_; refine s_st ?_; refine wpi_nil ?_
  repeat refine wp_seq ?_
  refine wp_ret ?_
  refine ⟨_, .cell rfl (.h (by repeat (first | exact Take.head | apply Take.tail))) rfl .nil, [], by repeat (first | exact HLe.nil | (apply HLe.take; focus (repeat (first | exact Take.head | apply Take.tail)))), ⟨p, t, rfl, natR hp, natR ht⟩, rfl⟩

def looksL (t : Trans) : List Int := t.ins.map (·.place) ++ t.nots.map (·.place)
theorem intF_len {α : Type} {f : α → Int} (l : List α) : (l.flatMap fun x => [AV.int .i64 (f x)]).length = l.length := by
  induction l with
  | nil => rfl
  | cons a l ih => simp only [List.flatMap_cons, List.length_append, ih, List.length_cons, List.length_nil]; omega

theorem ct_GLooks {G : GB} {t : Trans} {tc : List AV} (hT : transC (Gr G) t tc) (hl : t.ins.length ≤ 40) (hl2 : t.nots.length ≤ 40) :
    Ct prog n_group_Looks [.agg tc] G [] (fun v G' H' => Ints (Gr G') v (looksL t) ∧ H' = []) := by
  obtain ⟨iv, nv, ov, rfl, hi, hn, ho⟩ := hT
  have oi : One iv := hi.one
  have on : One nv := hn.one
  have hfill : fill [.nils, .nils] [(0, 1, iv), (1, 1, nv)] = some [iv, nv] := by
    simp only [fill_cons oi, fill_cons on]; rfl
  refine ct_body (fn := f_group_Looks) rfl rfl rfl ?_
  repeat refine wp_seq ?_
  refine wp_ops ?_
  refine s_bx fun b1 => ?_; refine s_mv ?_; refine wpi_nil ?_
  repeat refine wp_seq ?_
  refine wp_ops ?_
  refine s_mv ?_; refine wpi_nil ?_
  refine Wp.hle (HLe.nilS (es := 1)) ?_
  repeat refine wp_seq ?_
  refine wp_ops ?_
  refine s_fA ?_; refine s_ld ?_; refine s_fA ?_; refine s_ld ?_; refine s_bu ?_; refine s_mv ?_; refine wpi_nil ?_
  repeat refine wp_seq ?_
  refine wp_block ?_
  refine wp_loopX (α := AV) 2 (fun i x => [(13, intN i), (12, .agg [iv, nv]), (3, x)]) (fun i x => [slA 1 x (if i = 0 then [] else if i = 1 then t.ins else t.ins ++ t.nots).length ((if i = 0 then [] else if i = 1 then t.ins else t.ins ++ t.nots).flatMap fun a => [AV.int .i64 a.place])])
    (fun _ _ => True) .nils trivial (by repeat (first | exact SubE.nil | refine SubE.cons rfl ?_)) (by repeat (first | exact HLe.nil | (apply HLe.take; focus (repeat (first | exact Take.head | apply Take.tail))))) ?_
  rintro i x hil -
  repeat refine wp_seq ?_
  refine wp_ops ?_
  refine s_ib ?_; refine wpi_nil ?_
  repeat refine wp_seq ?_
  refine wp_cond rfl (fun h1 => ?_) (fun h1 => ?_)
  · have hi2 : i < 2 := by
      have := of_decide_eq_true h1
      omega
    clear h1
    obtain ⟨lv, L, P, hL, hLv, hP, hP2, hpart, hP3⟩ : ∃ lv L P, Arcs (Gr G) lv L ∧ L.length ≤ 40 ∧ P = (if i = 0 then [] else if i = 1 then t.ins else t.ins ++ t.nots) ∧ P ++ L = (if i + 1 = 0 then [] else if i + 1 = 1 then t.ins else t.ins ++ t.nots) ∧ Ab.part [iv, nv] ((i : Int).toNat * 1) none = some lv ∧ P.length ≤ 40 := by
      rcases (by omega : i = 0 ∨ i = 1) with rfl | rfl
      · exact ⟨iv, t.ins, [], hi, hl, by simp, by simp, rfl, by simp⟩
      · exact ⟨nv, t.nots, t.ins, hn, hl2, by simp, by simp, rfl, hl⟩
    rw [← hP, ← hP2]
    clear hP hP2
    have hLl := hL.len
    repeat refine wp_seq ?_
    refine wp_skip ?_
    refine wp_seq ?_
    repeat refine wp_seq ?_
    refine wp_block ?_
    repeat refine wp_seq ?_
    refine wp_ops ?_
    refine s_xV ?_; refine s_mv ?_; refine wpi_nil ?_
    repeat refine wp_seq ?_
    refine wp_ops ?_
    refine s_mv ?_; refine s_ln ?_; refine s_mv ?_; refine wpi_nil ?_
    repeat refine wp_seq ?_
    refine wp_block ?_
    refine wp_loopX (α := AV) L.length (fun j x => [(18, intN j), (17, intN L.length), (16, lv), (13, intN i), (12, .agg [iv, nv]), (3, x)]) (fun j x => [slA 1 x (P ++ L.take j).length ((P ++ L.take j).flatMap fun a => [AV.int .i64 a.place])])
      (fun _ _ => True) x trivial (by repeat (first | exact SubE.nil | refine SubE.cons rfl ?_)) (by rw [List.take_zero, List.append_nil]; repeat (first | exact HLe.nil | (apply HLe.take; focus (repeat (first | exact Take.head | apply Take.tail))))) ?_
    rintro j x hjl -
    repeat refine wp_seq ?_
    refine wp_ops ?_
    refine s_ib ?_; refine wpi_nil ?_
    repeat refine wp_seq ?_
    refine wp_cond rfl (fun h1 => ?_) (fun h1 => ?_)
    · have hjt : j < L.length := by simpa using h1
      clear h1
      obtain ⟨b, o, cap, op, ro, c, rfl, k2, k5⟩ := hL.at' hjt
      have hcl := intF_len (f := fun a : Arc => a.place) (P ++ L.take j)
      have hll : (P ++ L.take j).length ≤ 100 := by simp; omega
      repeat refine wp_seq ?_
      refine wp_skip ?_
      refine wp_seq ?_
      repeat refine wp_seq ?_
      refine wp_block ?_
      repeat refine wp_seq ?_
      refine wp_ops ?_
      (first | refine s_ix ?_ | refine s_ixi ?_); refine s_ld ?_; refine wpi_alloc fun b7 => ?_; refine s_st ?_; refine wpi_nil ?_
      repeat refine wp_seq ?_
      refine wp_ops ?_
      refine s_mv ?_; refine s_fA ?_; refine s_ld ?_; refine s_bs fun b25 => ?_; refine s_ap fun v26 f26 => ?_; refine s_mv ?_; refine wpi_nil ?_
      repeat refine wp_seq ?_
      refine wp_ops ?_
      refine s_ad ?_; refine s_mv ?_; refine wpi_nil ?_
      have e1 : (P ++ L.take (j + 1)).length = (P ++ L.take j).length + 1 := by rw [List.take_succ_eq_append_getElem hjt]; simp; omega
      have e2 : ((P ++ L.take (j + 1)).flatMap fun a => [AV.int .i64 a.place]) = ((P ++ L.take j).flatMap fun a => [AV.int .i64 a.place]) ++ [AV.int .i64 L[j].place] := by
        rw [List.take_succ_eq_append_getElem hjt, ← List.append_assoc, List.flatMap_append]; rfl
      refine ⟨rfl, hjt, v26, trivial, by repeat (first | exact SubE.nil | refine SubE.cons rfl ?_), ?_⟩
      rw [e1, e2]; repeat (first | exact HLe.nil | (apply HLe.take; focus (repeat (first | exact Take.head | apply Take.tail))))
    · have hj : j = L.length := by
        have : ¬ (j : Int) < L.length := of_decide_eq_false h1
        omega
      subst hj
      repeat refine wp_seq ?_
      refine wp_exit ?_
      repeat refine wp_seq ?_
      refine wp_ops ?_
      refine s_ad ?_; refine s_mv ?_; refine wpi_nil ?_
      refine ⟨rfl, hi2, x, trivial, by repeat (first | exact SubE.nil | refine SubE.cons rfl ?_), ?_⟩
      rw [List.take_length]; repeat (first | exact HLe.nil | (apply HLe.take; focus (repeat (first | exact Take.head | apply Take.tail))))
  · have hi : i = 2 := by
      have : ¬ (i : Int) < 2 := of_decide_eq_false h1
      omega
    subst hi
    repeat refine wp_seq ?_
    refine wp_exit ?_
    refine Wp.freezeS (by repeat (first | exact Take.head | apply Take.tail)) ?_
    intro G2 le2 hr
    repeat refine wp_seq ?_
    refine wp_ops ?_
    refine s_mv ?_; refine s_mv ?_; refine wpi_nil ?_
    repeat refine wp_seq ?_
    refine wp_ret ?_
    refine ⟨_, .tmp rfl .nil, [], by repeat (first | exact HLe.nil | (apply HLe.take; focus (repeat (first | exact Take.head | apply Take.tail)))), ?_, rfl⟩
    have e : looksL t = (t.ins ++ t.nots).map (·.place) := by simp [looksL]
    rw [e]
    refine SlL.of (f := fun a : Int => [AV.int .i64 a]) ?_ (fun _ _ => rfl) (fun _ => rfl)
    rw [List.length_map, List.flatMap_map]; exact hr

