/-
  A part of the proof: contracts of functions of the program, over the abstract machine.
-/
import Derived.Test.YtnhfopfmgodllaaN1
noncomputable section
namespace Go.Sl
open Go Go.Ab Cd
set_option linter.unusedVariables false
set_option linter.unusedSimpArgs false
set_option maxRecDepth 10000

def nearPut (i : Nat) (l : List (List Nat)) (a : Arc) : List (List Nat) := l.set a.place.toNat (l.getD a.place.toNat [] ++ [i])
def nearRow (i : Nat) (as : List Arc) (l : List (List Nat)) : List (List Nat) := as.foldl (nearPut i) l
def nearTo (n : Net) (mine : List Bool) (k : Nat) : List (List Nat) := (List.range k).foldl (fun l i => if has mine i then nearRow i ((n.trans.getD i default).ins ++ (n.trans.getD i default).nots) l else l) (List.replicate n.places.length [])
def near (n : Net) (mine : List Bool) : List (List Nat) := nearTo n mine n.trans.length
def readyTo (n : Net) (mine : List Bool) (k : Nat) : List Bool := ((List.range k).map fun i => has mine i && may (n.trans.getD i default) (first n)) ++ List.replicate (n.trans.length - k) false
def ready0 (n : Net) (mine : List Bool) : List Bool := readyTo n mine n.trans.length
theorem nearRow_len (i : Nat) (as : List Arc) : ∀ l, (nearRow i as l).length = l.length := by
  induction as with
  | nil => intro l; rfl
  | cons a as ih => intro l; show (nearRow i as (nearPut i l a)).length = _; rw [ih]; simp [nearPut]
theorem nearTo_succ (n : Net) (mine : List Bool) (k : Nat) : nearTo n mine (k + 1) = if has mine k then nearRow k ((n.trans.getD k default).ins ++ (n.trans.getD k default).nots) (nearTo n mine k) else nearTo n mine k := by
  simp only [nearTo, List.range_succ, List.foldl_append, List.foldl_cons, List.foldl_nil]
theorem nearTo_len (n : Net) (mine : List Bool) : ∀ k, (nearTo n mine k).length = n.places.length
  | 0 => by simp [nearTo]
  | k + 1 => by rw [nearTo_succ]; split <;> simp [nearRow_len, nearTo_len n mine k]
theorem nearRow_append (i : Nat) (as bs : List Arc) (l) : nearRow i (as ++ bs) l = nearRow i bs (nearRow i as l) := by simp [nearRow, List.foldl_append]
theorem nearRow_take (i : Nat) (as : List Arc) (l) {j : Nat} (h : j < as.length) : nearRow i (as.take (j + 1)) l = nearPut i (nearRow i (as.take j) l) as[j] := by
  rw [List.take_succ_eq_append_getElem h, nearRow_append]; rfl
theorem readyTo_len (n : Net) (mine : List Bool) (k : Nat) (h : k ≤ n.trans.length) : (readyTo n mine k).length = n.trans.length := by simp [readyTo]; omega
theorem readyTo_succ (n : Net) (mine : List Bool) (k : Nat) (h : k < n.trans.length) : readyTo n mine (k + 1) = (readyTo n mine k).set k (has mine k && may (n.trans.getD k default) (first n)) := by
  unfold readyTo
  rw [List.set_append_right _ _ (by simp), List.length_map, List.length_range, Nat.sub_self, List.range_succ, List.map_append, List.append_assoc]
  congr 1
  obtain ⟨m, hm⟩ : ∃ m, n.trans.length - k = m + 1 := ⟨n.trans.length - k - 1, by omega⟩
  rw [hm, List.replicate_succ, List.set_cons_zero, show n.trans.length - (k + 1) = m by omega]; rfl
theorem readyTo_skip (n : Net) (mine : List Bool) (k : Nat) (h : k < n.trans.length) (hm : has mine k = false) : readyTo n mine (k + 1) = readyTo n mine k := by
  unfold readyTo
  rw [List.range_succ, List.map_append, List.append_assoc]
  congr 1
  obtain ⟨m, hm'⟩ : ∃ m, n.trans.length - k = m + 1 := ⟨n.trans.length - k - 1, by omega⟩
  rw [hm', List.replicate_succ, show n.trans.length - (k + 1) = m by omega]; simp [hm]
theorem nearPut_bd {i B : Nat} {l : List (List Nat)} {a : Arc} (h : ∀ r ∈ l, r.length ≤ B) : ∀ r ∈ nearPut i l a, r.length ≤ B + 1 := by
  intro r hr
  unfold nearPut at hr
  rcases List.mem_or_eq_of_mem_set hr with h1 | h1
  · have := h r h1; omega
  · subst h1
    rw [List.length_append, List.length_singleton]
    by_cases hp : a.place.toNat < l.length
    · rw [getD_lt hp]; have := h _ (List.getElem_mem hp); omega
    · rw [getD_ge (by omega)]; simp
theorem nearRow_bd {i : Nat} (as : List Arc) : ∀ {B : Nat} {l : List (List Nat)}, (∀ r ∈ l, r.length ≤ B) → ∀ r ∈ nearRow i as l, r.length ≤ B + as.length := by
  induction as with
  | nil => intro B l h r hr; exact h r hr
  | cons a as ih =>
    intro B l h r hr
    have := ih (nearPut_bd (i := i) (a := a) h) r hr
    simp only [List.length_cons]; omega
theorem nearTo_bd (n : Net) (hs : n.small) (mine : List Bool) : ∀ k, k ≤ n.trans.length → ∀ r ∈ nearTo n mine k, r.length ≤ 24 * k
  | 0, _ => by intro r hr; simp [nearTo] at hr; simp [hr]
  | k + 1, hk => by
    intro r hr
    have ih := nearTo_bd n hs mine k (by omega)
    rw [nearTo_succ] at hr
    split at hr
    · have := nearRow_bd _ ih r hr
      have h3 := hs.arcs (n.trans.getD k default) (by rw [getD_lt (by omega)]; exact List.getElem_mem _)
      rw [List.length_append] at this
      omega
    · have := ih r hr; omega
theorem splitAtP {p : Arc → Prop} {l : List Arc} (h : ∀ a ∈ l, p a) {j : Nat} (hj : j < l.length) : p l[j] := h _ (List.getElem_mem hj)

theorem flat_one {α : Type} {f : α → AV} (l : List α) : (l.flatMap fun x => [f x]) = l.map f := by
  induction l with
  | nil => rfl
  | cons a l ih => simp [ih]

/-- What 'New' makes, before it is closed. -/
@[reducible] def newH (b32 b20 b24 b26 b30 : Nat) (nv1 nv2 mv av : AV) (n : Net) (l : List (AV × List Nat)) (rd : List Bool) : List As :=
  [rows l, pt b32 (.cells none false [nv1, nv2, mv, .slc b20 0 n.places.length (some n.places.length), .slc b24 0 n.trans.length (some n.trans.length), .slc b26 0 n.places.length (some n.places.length), .nils, .nilm, .nils, .slc b30 0 n.places.length (some n.places.length), .int .i64 0, .nils, av, .int .i64 0]),
    pt b20 (.cells none false (l.map (·.1))), pt b24 (.cells none false (rd.map boolV)), pt b26 (.cells none false ((first n).map intV)), pt b30 (.cells none false ((List.replicate n.places.length (0 : Int)).map intV))]

theorem ct_SwiftNew {G : GB} {nv mv av : AV} {n : Net} {mine away : List Bool} (hN : netR (Gr G) nv n) (hO : n.ok) (hM : SlL (Gr G) 1 boolC mv mine) (hA : SlL (Gr G) 1 boolC av away) :
    Ct prog n_swift_New [nv, mv, av] G [] (fun v G' H' => ∃ nv1 nv2 b32 b20 b24 b26 b30, nv = .agg [nv1, nv2] ∧ v = .ptr b32 0 ∧ ∃ l : List (AV × List Nat), l.map (·.2) = near n mine ∧ H' = newH b32 b20 b24 b26 b30 nv1 nv2 mv av n l (ready0 n mine)) := by
  obtain ⟨nv1, nv2, rfl, hn1, hn2⟩ := hN
  have hN : netR (Gr G) (.agg [nv1, nv2]) n := ⟨nv1, nv2, rfl, hn1, hn2⟩
  have l1 := hn1.len
  have l2 := hn2.len
  have hs1 := hO.places
  have hs2 := hO.trans
  have o1 := hn1.one
  have o2 := hn2.one
  have om := hM.one
  have oa := hA.one
  refine ct_body (fn := f_swift_New) rfl rfl rfl ?_
  repeat refine wp_seq ?_
  refine wp_ops ?_
  refine s_bx fun b3 => ?_; refine s_mv ?_; refine wpi_nil ?_
  refine wp_seq ?_
  refine wp_ops ?_
  refine s_ld ?_; refine s_mv ?_; refine s_mv ?_; refine s_fA ?_; refine s_ld ?_; refine s_ln ?_; refine s_mk fun b20 => ?_; refine s_fA ?_; refine s_ld ?_; refine s_ln ?_
  refine s_mk fun b24 => ?_; refine s_ld ?_; refine s_fA ?_; refine s_ld ?_; refine s_ln ?_; refine s_mk fun b30 => ?_
  refine wpi_callF rfl (ct_First hN hs1) (by repeat (first | exact HLe.splitNil | (apply HLe.splitCons; focus (repeat (first | exact Take.head | apply Take.tail))))) ?_
  rintro v26 G26 H26 le26 ⟨rfl, b26, rfl, rfl⟩
  try simp only [List.nil_append, List.cons_append]
  have hfill : fill [.nils, .nils, .nils, .nils, .nils, .nils, .nils, .nilm, .nils, .nils, .int .i64 0, .nils, .nils, .int .i64 0] [(0, 2, .agg [nv1, nv2]), (2, 1, mv), (12, 1, av), (3, 1, .slc b20 0 n.places.length (some n.places.length)), (4, 1, .slc b24 0 n.trans.length (some n.trans.length)), (5, 1, .slc b26 0 n.places.length (some n.places.length)), (9, 1, .slc b30 0 n.places.length (some n.places.length))] =
      some [nv1, nv2, mv, .slc b20 0 n.places.length (some n.places.length), .slc b24 0 n.trans.length (some n.trans.length), .slc b26 0 n.places.length (some n.places.length), .nils, .nilm, .nils, .slc b30 0 n.places.length (some n.places.length), .int .i64 0, .nils, av, .int .i64 0] := by
    have e : fill [.nils, .nils, .nils, .nils, .nils, .nils, .nils, .nilm, .nils, .nils, .int .i64 0, .nils, .nils, .int .i64 0] [(0, 2, .agg [nv1, nv2]), (2, 1, mv), (12, 1, av), (3, 1, .slc b20 0 n.places.length (some n.places.length)), (4, 1, .slc b24 0 n.trans.length (some n.trans.length)), (5, 1, .slc b26 0 n.places.length (some n.places.length)), (9, 1, .slc b30 0 n.places.length (some n.places.length))] =
      fill [nv1, nv2, .nils, .nils, .nils, .nils, .nils, .nilm, .nils, .nils, .int .i64 0, .nils, .nils, .int .i64 0] [(2, 1, mv), (12, 1, av), (3, 1, .slc b20 0 n.places.length (some n.places.length)), (4, 1, .slc b24 0 n.trans.length (some n.trans.length)), (5, 1, .slc b26 0 n.places.length (some n.places.length)), (9, 1, .slc b30 0 n.places.length (some n.places.length))] := rfl
    rw [e]; simp only [fill_cons om, fill_cons oa]; rfl
  refine s_rc ?_; refine s_rc ?_; refine s_rc ?_; refine s_rc ?_; refine s_bu ?_; refine s_bx fun b32 => ?_; refine s_mv ?_; refine wpi_nil ?_
  have r1 : repl [AV.nils] n.places.length = (List.replicate n.places.length (AV.nils, ([] : List Nat))).map (·.1) := by rw [repl_one (f := fun x : AV × List Nat => x.1) (x := (AV.nils, []))]
  have r2 : repl [AV.bool false] n.trans.length = (readyTo n mine 0).map boolV := by rw [repl_one (f := boolV) (x := false)]; simp [readyTo]
  have r3 : repl [AV.int .i64 0] n.places.length = (List.replicate n.places.length (0 : Int)).map intV := repl_one (f := intV) (x := 0) _
  rw [r1, r2, r3]
  refine Wp.hle (rows_new n.places.length) ?_
  repeat refine wp_seq ?_
  refine wp_ops ?_
  refine s_fA ?_; refine s_ld ?_; refine s_ln ?_; refine s_mv ?_; refine wpi_nil ?_
  repeat refine wp_seq ?_
  refine wp_block ?_
  refine wp_loopX (α := List (AV × List Nat)) n.trans.length (fun i _ => [(36, intN i), (35, intN n.trans.length), (34, nv2), (7, .ptr b32 0), (1, mv)]) (fun i l => newH b32 b20 b24 b26 b30 nv1 nv2 mv av n l (readyTo n mine i))
    (fun i l => l.map (·.2) = nearTo n mine i) (List.replicate n.places.length (.nils, [])) (by simp [nearTo]) (by repeat (first | exact SubE.nil | refine SubE.cons rfl ?_)) (by repeat (first | exact HLe.nil | (apply HLe.take; focus (repeat (first | exact Take.head | apply Take.tail))))) ?_
  rintro i l hil hnear
  have hll : l.length = n.places.length := by have := nearTo_len n mine i; rw [← hnear, List.length_map] at this; exact this
  repeat refine wp_seq ?_
  refine wp_ops ?_
  refine s_ib ?_; refine wpi_nil ?_
  repeat refine wp_seq ?_
  refine wp_cond rfl (fun h1 => ?_) (fun h1 => ?_)
  · have hlt : i < n.trans.length := by simpa using h1
    clear h1
    obtain ⟨b, o, cap, op', ro, c, y, rfl, k2, k3, k4, k5, k6⟩ := hn2.at hlt
    have hai := hO.arcsIn _ (List.getElem_mem hlt)
    obtain ⟨a1, a2, a3⟩ := hO.arcs _ (List.getElem_mem hlt)
    have hgd : n.trans.getD i default = n.trans[i] := getD_lt hlt
    have hns := nearTo_succ n mine i
    have hrs := readyTo_succ n mine i hlt
    have hrl := readyTo_len n mine i hil
    have hrk := readyTo_skip n mine i hlt
    rw [hgd] at hns hrs
    generalize n.trans[i] = T at *
    have k3' := k3
    obtain ⟨iv, nv, ov, rfl, hi, hn, ho⟩ := k3
    have oi := hi.one
    have on := hn.one
    repeat refine wp_seq ?_
    refine wp_skip ?_
    refine wp_seq ?_
    repeat refine wp_seq ?_
    refine wp_block ?_
    repeat refine wp_seq ?_
    refine wp_ops ?_
    refine s_mv ?_; (first | refine s_ix ?_ | refine s_ixi ?_); refine s_ld ?_; refine wpi_alloc fun b9 => ?_; refine s_mv ?_; refine s_st ?_; refine wpi_nil ?_
    repeat refine wp_seq ?_
    refine wp_ops ?_
    refine s_mv ?_; refine s_mv ?_
    refine wpi_callF rfl (ct_has hM) (by repeat (first | exact HLe.splitNil | (apply HLe.splitCons; focus (repeat (first | exact Take.head | apply Take.tail))))) ?_
    rintro v43 G43 H43 le43 ⟨rfl, rfl, rfl⟩
    try simp only [List.nil_append, List.cons_append]
    refine s_no ?_; refine wpi_nil ?_
    repeat refine wp_seq ?_
    refine wp_cond rfl (fun h1 => ?_) (fun h1 => ?_)
    · have hh : has mine i = false := by simpa using h1
      rw [if_neg (by rw [hh]; nofun)] at hns
      have hrk := hrk hh
      repeat refine wp_seq ?_
      refine wp_exit ?_
      repeat refine wp_seq ?_
      refine wp_ops ?_
      refine s_ad ?_; refine s_mv ?_; refine wpi_nil ?_
      refine ⟨rfl, hlt, l, by rw [hns]; exact hnear, by repeat (first | exact SubE.nil | refine SubE.cons rfl ?_), ?_⟩
      rw [hrk]; repeat (first | exact HLe.nil | (apply HLe.take; focus (repeat (first | exact Take.head | apply Take.tail))))
    have hh : has mine i = true := by simpa using h1
    rw [if_pos hh] at hns
    clear h1 hrk
    repeat refine wp_seq ?_
    refine wp_skip ?_
    have hfill2 : fill [.nils, .nils] [(0, 1, iv), (1, 1, nv)] = some [iv, nv] := by simp only [fill_cons oi, fill_cons on]; rfl
    repeat refine wp_seq ?_
    refine wp_ops ?_
    refine s_fA ?_; refine s_ld ?_; refine s_fA ?_; refine s_ld ?_; refine s_bs fun b49 => ?_; refine s_ln ?_; refine s_mv ?_; refine wpi_nil ?_
    repeat refine wp_seq ?_
    refine wp_block ?_
    refine wp_loopX (α := List (AV × List Nat)) 2 (fun j _ => [(51, intN j), (50, .int .i64 2), (49, .slc b49 0 2 (some 2)), (8, intN i), (9, .ptr b9 0), (36, intN i), (35, intN n.trans.length), (34, .slc b o n.trans.length cap), (7, .ptr b32 0), (1, mv)])
      (fun j l => pt b49 (.cells none false [iv, nv]) :: pt b9 (.cells none false [.str T.name, .int .i64 T.delay, .int .i64 T.prio, iv, nv, ov]) :: newH b32 b20 b24 b26 b30 nv1 (.slc b o n.trans.length cap) mv av n l (readyTo n mine i))
      (fun j l' => l'.map (·.2) = nearRow i (if j = 0 then [] else if j = 1 then T.ins else T.ins ++ T.nots) (l.map (·.2))) l rfl (by repeat (first | exact SubE.nil | refine SubE.cons rfl ?_)) (by repeat (first | exact HLe.nil | (apply HLe.take; focus (repeat (first | exact Take.head | apply Take.tail))))) ?_
    rintro j l' hj2 hnear'
    have hll' : l'.length = n.places.length := by have := congrArg List.length hnear'; rw [nearRow_len, List.length_map, List.length_map] at this; omega
    repeat refine wp_seq ?_
    refine wp_ops ?_
    refine s_ib ?_; refine wpi_nil ?_
    repeat refine wp_seq ?_
    refine wp_cond rfl (fun h1 => ?_) (fun h1 => ?_)
    · have hj : j < 2 := by have := of_decide_eq_true h1; omega
      clear h1
      obtain ⟨lv, L, P, hL, hLP, hLl, hpart, hP1, hP2, hP3⟩ : ∃ lv L P, Arcs (Gr G) lv L ∧ (∀ a ∈ L, 0 ≤ a.place ∧ a.place < n.places.length) ∧ L.length ≤ 12 ∧ Ab.part [iv, nv] (0 + j * 1) none = some lv ∧ P = (if j = 0 then [] else if j = 1 then T.ins else T.ins ++ T.nots) ∧ P ++ L = (if j + 1 = 0 then [] else if j + 1 = 1 then T.ins else T.ins ++ T.nots) ∧ P.length ≤ 12 := by
        rcases (by omega : j = 0 ∨ j = 1) with rfl | rfl
        · exact ⟨iv, T.ins, [], hi, fun a ha => by have := hai a (by simp [ha]); omega, a1, rfl, by simp, by simp, by simp⟩
        · exact ⟨nv, T.nots, T.ins, hn, fun a ha => by have := hai a (by simp [ha]); omega, a2, rfl, by simp, by simp, a1⟩
      rw [← hP2]
      rw [← hP1] at hnear'
      have hLn := hL.len
      clear hP1 hP2
      repeat refine wp_seq ?_
      refine wp_skip ?_
      refine wp_seq ?_
      repeat refine wp_seq ?_
      refine wp_block ?_
      repeat refine wp_seq ?_
      refine wp_ops ?_
      (first | refine s_ix ?_ | refine s_ixi ?_); refine s_ld ?_; refine s_mv ?_; refine wpi_nil ?_
      repeat refine wp_seq ?_
      refine wp_ops ?_
      refine s_mv ?_; refine s_ln ?_; refine s_mv ?_; refine wpi_nil ?_
      repeat refine wp_seq ?_
      refine wp_block ?_
      refine wp_loopX (α := List (AV × List Nat)) L.length (fun q _ => [(57, intN q), (56, intN L.length), (55, lv), (51, intN j), (50, .int .i64 2), (49, .slc b49 0 2 (some 2)), (8, intN i), (9, .ptr b9 0), (36, intN i), (35, intN n.trans.length), (34, .slc b o n.trans.length cap), (7, .ptr b32 0), (1, mv)])
        (fun q l => pt b49 (.cells none false [iv, nv]) :: pt b9 (.cells none false [.str T.name, .int .i64 T.delay, .int .i64 T.prio, iv, nv, ov]) :: newH b32 b20 b24 b26 b30 nv1 (.slc b o n.trans.length cap) mv av n l (readyTo n mine i))
        (fun q l'' => l''.map (·.2) = nearRow i (L.take q) (l'.map (·.2))) l' rfl (by repeat (first | exact SubE.nil | refine SubE.cons rfl ?_)) (by repeat (first | exact HLe.nil | (apply HLe.take; focus (repeat (first | exact Take.head | apply Take.tail))))) ?_
      rintro q l'' hql hnear''
      have hll'' : l''.length = n.places.length := by have := congrArg List.length hnear''; rw [nearRow_len, List.length_map, List.length_map] at this; omega
      repeat refine wp_seq ?_
      refine wp_ops ?_
      refine s_ib ?_; refine wpi_nil ?_
      repeat refine wp_seq ?_
      refine wp_cond rfl (fun h1 => ?_) (fun h1 => ?_)
      · have hqt : q < L.length := by simpa using h1
        clear h1
        obtain ⟨lb, lo, lcap, lop, lro, lc, rfl, m2, m5⟩ := Arcs.at' hL hqt
        obtain ⟨p1, p2⟩ := hLP _ (List.getElem_mem hqt)
        have hnt := nearRow_take i L (l'.map (·.2)) hqt
        rw [← hnear''] at hnt
        have hpx : L[q].place.toNat < l''.length := by omega
        have g1 : Ab.part (l''.map (·.1)) (0 + L[q].place.toNat * 1) none = some l''[L[q].place.toNat].1 := part_map1 (f := fun x : AV × List Nat => x.1) hpx
        generalize L[q] = A at *
        repeat refine wp_seq ?_
        refine wp_skip ?_
        refine wp_seq ?_
        repeat refine wp_seq ?_
        refine wp_block ?_
        repeat refine wp_seq ?_
        refine wp_ops ?_
        (first | refine s_ix ?_ | refine s_ixi ?_); refine s_ld ?_; refine wpi_alloc fun b13 => ?_; refine s_st ?_; refine wpi_nil ?_
        refine wp_ops ?_
        refine WpI.hle ((HLe.take (P := rows l'') (by repeat (first | exact Take.head | apply Take.tail)) HLe.refl).trans (rows_take hpx)) ?_
        have hnn : ((l''[A.place.toNat]).2.flatMap natF).length = (l''[A.place.toNat]).2.length := natF_len _
        have hbd : (l''[A.place.toNat]).2.length ≤ 2000 := by
          have b1 := nearTo_bd n hO.tosmall mine i hil
          rw [← hnear] at b1
          have b2 := nearRow_bd (i := i) P b1
          rw [← hnear'] at b2
          have b3 := nearRow_bd (i := i) (L.take q) b2
          rw [← hnear''] at b3
          have := b3 (l''[A.place.toNat]).2 (List.mem_map.2 ⟨_, List.getElem_mem hpx, rfl⟩)
          have : (L.take q).length ≤ 12 := by simp; omega
          omega
        refine s_mv ?_; (first | refine s_nc ?_ | refine s_ncf ?_ | refine s_nci ?_); refine s_fA ?_; refine s_ld ?_; refine s_fA ?_; refine s_ld ?_; refine s_mv ?_
        (first | refine s_nc ?_ | refine s_ncf ?_ | refine s_nci ?_); refine s_fA ?_; refine s_ld ?_; refine s_fA ?_; refine s_ld ?_; (first | refine s_ix ?_ | refine s_ixi ?_)
        refine s_ld ?_; refine s_mv ?_; refine s_bs fun b76 => ?_; refine s_ap fun v77 f77 => ?_
        have s1 : splice (l''.map (·.1)) (0 + A.place.toNat * 1) [v77] = some ((l''.set A.place.toNat (v77, (l''[A.place.toNat]).2 ++ [i])).map (·.1)) := splice_set1 (f := fun x : AV × List Nat => x.1) (x := (v77, (l''[A.place.toNat]).2 ++ [i])) hpx
        refine s_rc ?_; refine s_rc ?_; (first | refine s_ix ?_ | refine s_ixi ?_); refine s_s1 ?_; refine wpi_nil ?_
        repeat refine wp_seq ?_
        refine wp_ops ?_
        refine s_ad ?_; refine s_mv ?_; refine wpi_nil ?_
        have hrow : rowA (v77, (l''[A.place.toNat]).2 ++ [i]) = slA 1 v77 ((l''[A.place.toNat]).2.length + 1) ((l''[A.place.toNat]).2.flatMap natF ++ [intN i]) := by simp [rowA, natF]
        refine ⟨rfl, hqt, l''.set A.place.toNat (v77, (l''[A.place.toNat]).2 ++ [i]), ?_, by repeat (first | exact SubE.nil | refine SubE.cons rfl ?_), ?_⟩
        · rw [hnt, nearPut, List.map_set, getD_lt (by rw [List.length_map]; exact hpx), List.getElem_map]
        · refine HLe.trans ?_ (HLe.trans (rows_put (x := (v77, (l''[A.place.toNat]).2 ++ [i])) hpx) (H' := rows (l''.set A.place.toNat (v77, (l''[A.place.toNat]).2 ++ [i])) :: [pt b49 (.cells none false [iv, nv]), pt b9 (.cells none false [.str T.name, .int .i64 T.delay, .int .i64 T.prio, iv, nv, ov]), pt b32 (.cells none false [nv1, .slc b o n.trans.length cap, mv, .slc b20 0 n.places.length (some n.places.length), .slc b24 0 n.trans.length (some n.trans.length), .slc b26 0 n.places.length (some n.places.length), .nils, .nilm, .nils, .slc b30 0 n.places.length (some n.places.length), .int .i64 0, .nils, av, .int .i64 0]),
            pt b20 (.cells none false ((l''.set A.place.toNat (v77, (l''[A.place.toNat]).2 ++ [i])).map (·.1))), pt b24 (.cells none false ((readyTo n mine i).map boolV)), pt b26 (.cells none false ((first n).map intV)), pt b30 (.cells none false ((List.replicate n.places.length (0 : Int)).map intV))]) ?_)
          · rw [hrow]; repeat (first | exact HLe.nil | (apply HLe.take; focus (repeat (first | exact Take.head | apply Take.tail))))
          · repeat (first | exact HLe.nil | (apply HLe.take; focus (repeat (first | exact Take.head | apply Take.tail))))
      · have hq : q = L.length := by
          have : ¬ (q : Int) < L.length := of_decide_eq_false h1
          omega
        subst hq
        repeat refine wp_seq ?_
        refine wp_exit ?_
        repeat refine wp_seq ?_
        refine wp_ops ?_
        refine s_ad ?_; refine s_mv ?_; refine wpi_nil ?_
        refine ⟨rfl, hj, l'', ?_, by repeat (first | exact SubE.nil | refine SubE.cons rfl ?_), by repeat (first | exact HLe.nil | (apply HLe.take; focus (repeat (first | exact Take.head | apply Take.tail))))⟩
        rw [hnear'', List.take_length, nearRow_append, hnear']
    · have hj : j = 2 := by
        have : ¬ (j : Int) < 2 := of_decide_eq_false h1
        omega
      subst hj
      repeat refine wp_seq ?_
      refine wp_exit ?_
      have hmay : Ints (Reads G [pt b49 (.cells none false [iv, nv]), pt b9 (.cells none false [.str T.name, .int .i64 T.delay, .int .i64 T.prio, iv, nv, ov]), rows l', pt b32 (.cells none false [nv1, .slc b o n.trans.length cap, mv, .slc b20 0 n.places.length (some n.places.length), .slc b24 0 n.trans.length (some n.trans.length), .slc b26 0 n.places.length (some n.places.length), .nils, .nilm, .nils, .slc b30 0 n.places.length (some n.places.length), .int .i64 0, .nils, av, .int .i64 0]),
          pt b20 (.cells none false (l'.map (·.1))), pt b24 (.cells none false ((readyTo n mine i).map boolV)), pt b26 (.cells none false ((first n).map intV)), pt b30 (.cells none false ((List.replicate n.places.length (0 : Int)).map intV))]) (.slc b26 0 n.places.length (some n.places.length)) (first n) := by
        have hfl : (first n).length = n.places.length := by simp [first]
        refine SlL.of (f := fun x : Int => [intV x]) ?_ (fun _ _ => rfl) (fun _ => rfl)
        rw [flat_one, hfl]
        exact pt_SlR (by repeat (first | exact Take.head | apply Take.tail)) (by simp [hfl])
      have hfl : (first n).length = n.places.length := by simp [first]
      have hst : splice ((readyTo n mine i).map boolV) (0 + i * 1) [boolV (may T (first n))] = some ((readyTo n mine (i + 1)).map boolV) := by
        rw [hrs, hh, Bool.true_and]; exact splice_set1 (f := boolV) (by omega)
      repeat refine wp_seq ?_
      refine wp_ops ?_
      refine s_mv ?_; (first | refine s_nc ?_ | refine s_ncf ?_ | refine s_nci ?_); refine s_fA ?_; refine s_ld ?_; refine s_mv ?_; refine s_ld ?_; refine s_mv ?_
      (first | refine s_nc ?_ | refine s_ncf ?_ | refine s_nci ?_); refine s_fA ?_; refine s_ld ?_
      refine wpi_callH rfl (ct_mark_May k3' hmay (fun a ha => by have := hai a (List.mem_append_left _ ha); omega) (by omega) (by omega)) ?_
      rintro v91 G91 H91 le91 ⟨rfl, rfl, rfl⟩
      try simp only [List.nil_append, List.cons_append]
      refine s_rc ?_; (first | refine s_ix ?_ | refine s_ixi ?_); refine s_s1 ?_; refine wpi_nil ?_
      repeat refine wp_seq ?_
      refine wp_ops ?_
      refine s_ad ?_; refine s_mv ?_; refine wpi_nil ?_
      refine ⟨rfl, hlt, l', ?_, by repeat (first | exact SubE.nil | refine SubE.cons rfl ?_), by repeat (first | exact HLe.nil | (apply HLe.take; focus (repeat (first | exact Take.head | apply Take.tail))))⟩
      rw [hnear', hns, hnear]; rfl
  · have hi : i = n.trans.length := by
      have : ¬ (i : Int) < n.trans.length := of_decide_eq_false h1
      omega
    subst hi
    repeat refine wp_seq ?_
    refine wp_exit ?_
    repeat refine wp_seq ?_
    refine wp_ops ?_
    refine s_mv ?_; refine s_mv ?_; refine wpi_nil ?_
    repeat refine wp_seq ?_
    refine wp_ret ?_
    exact ⟨_, .tmp rfl .nil, _, HLe.refl, _, _, _, _, _, _, _, rfl, rfl, l, hnear, rfl⟩

