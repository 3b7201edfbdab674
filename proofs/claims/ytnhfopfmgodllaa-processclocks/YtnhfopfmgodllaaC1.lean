/-
  A part of the proof: contracts of functions of the program, over the abstract machine.
-/
import Derived.Test.YtnhfopfmgodllaaX1
noncomputable section
namespace Go.Sl
open Go Go.Ab Cd
set_option linter.unusedVariables false
set_option linter.unusedSimpArgs false
set_option maxRecDepth 10000

def ckPlace (i : Nat) : Place := ⟨[112, 97 + i], 0⟩
def ckPlaces (k : Nat) : List Place := ⟨[122], 0⟩ :: (List.range k).map ckPlace
def ckTrans (i : Nat) : Trans := ⟨[116, 97 + i], 1, 0, [⟨(i : Int) + 1, 1⟩], [], [⟨0, 1⟩]⟩
def ckTs (k : Nat) : List Trans := (List.range k).map ckTrans
def ckNet (m : Nat) : Net := ⟨ckPlaces m, ckTs m⟩
def ckPart (m : Nat) : Part := ⟨(m : Int) + 1, (m :: List.range m).map fun (k : Nat) => (k : Int), (List.range m).map fun (k : Nat) => (k : Int)⟩
def ckLanes (m : Nat) : List Lane := (List.range m).map fun (i : Nat) => ⟨(i : Int), (m : Int), 1⟩
theorem ckPlaces_succ (k : Nat) : ckPlaces (k + 1) = ckPlaces k ++ [ckPlace k] := by simp [ckPlaces, List.range_succ]
theorem ckTs_succ (k : Nat) : ckTs (k + 1) = ckTs k ++ [ckTrans k] := by simp [ckTs, List.range_succ]
theorem ckPlaces_len (k : Nat) : (ckPlaces k).length = k + 1 := by simp [ckPlaces]
theorem ckTs_len (k : Nat) : (ckTs k).length = k := by simp [ckTs]
theorem ckNet_ok (m : Nat) (hm : m ≤ 5) : (ckNet m).ok where
  places := by simp only [ckNet, ckPlaces_len]; omega
  trans := by simp only [ckNet, ckTs_len]; omega
  arcs := by
    intro t ht
    obtain ⟨i, _, rfl⟩ := List.mem_map.1 ht
    simp [ckTrans]
  arcsIn := by
    intro t ht a ha
    obtain ⟨i, hi, rfl⟩ := List.mem_map.1 ht
    have hi := List.mem_range.1 hi
    simp only [ckNet, ckPlaces_len]
    simp [ckTrans] at ha
    rcases ha with rfl | rfl <;> first | (simp; done) | (simp; omega)
  tokens := by
    intro p hp
    simp only [ckNet, ckPlaces, List.mem_cons, List.mem_map] at hp
    rcases hp with rfl | ⟨i, _, rfl⟩ <;> simp [ckPlace]
  nums := by
    intro t ht
    obtain ⟨i, hi, rfl⟩ := List.mem_map.1 ht
    simp [ckTrans]
def partOkB (n : Net) (p : Part) : Bool := decide (p.fits n) && p.places.all (inR p.n) && p.trans.all (inR p.n) && (List.range n.trans.length).all fun i => looksHome p i (n.trans.getD i default) && outsHome p i (n.trans.getD i default)
theorem partOkB_zero {n : Net} {p : Part} (h : partOkB n p = true) : partCheck n p = 0 := by
  simp only [partOkB, Bool.and_eq_true, decide_eq_true_eq] at h
  obtain ⟨⟨⟨h1, h2⟩, h3⟩, h4⟩ := h
  rw [List.all_eq_true] at h4
  have h5 : transHome p n n.trans.length := fun i hi _ => by
    have := h4 i (List.mem_range.2 hi)
    simpa using this
  rw [partCheck, if_neg (not_not_intro h1), if_neg (not_not_intro ⟨h2, h3⟩), if_pos h5]
theorem ck_facts (m : Nat) (h1 : 1 ≤ m) (h5 : m ≤ 5) : partOkB (ckNet m) (ckPart m) = true ∧ rawLanes (ckNet m) (ckPart m) = ckLanes m ∧ compactL (ckLanes m) = ckLanes m ∧ insOf (ckLanes m) m (ckLanes m).length = ckLanes m ∧ outsOf (ckLanes m) m (ckLanes m).length = [] := by
  rcases (by omega : m = 1 ∨ m = 2 ∨ m = 3 ∨ m = 4 ∨ m = 5) with rfl | rfl | rfl | rfl | rfl <;> decide +kernel
theorem ckLanes_len (m : Nat) : (ckLanes m).length = m := by simp [ckLanes]
theorem ckLanes_get {m i : Nat} (h : i < m) : (ckLanes m).getD i default = ⟨(i : Int), (m : Int), 1⟩ := by simp [ckLanes, h]
theorem ck_lanes (m : Nat) (h1 : 1 ≤ m) (h5 : m ≤ 5) {L : List Lane} (h : LanesR (rawLanes (ckNet m) (ckPart m)) L) : L = ckLanes m := by
  obtain ⟨_, f2, f3, _, _⟩ := ck_facts m h1 h5
  refine h.unique ⟨ckLanes m, by rw [f2], ?_, f3.symm⟩
  intro p hp1 hp2
  rw [ckLanes_len] at hp2
  rw [ckLanes_get hp2, ckLanes_get (by omega : p - 1 < m)]
  unfold le; rw [cmpL_lt]; simp only []; omega
theorem ck_tell {m f : Nat} {ks : List Int} {t : Int} (hk : ks.length = m) : tell (ckLanes m) ks f m t = if f < m ∧ t > ks.getD f 0 then ks.set f t else ks := by
  apply List.ext_getElem?
  intro j
  have e : (tell (ckLanes m) ks f m t)[j]? = if j < m then some (if j = f then minF true (ks.getD j 0) t else ks.getD j 0) else none := by
    unfold tell tellTo
    rw [List.drop_length, List.append_nil, hk]
    by_cases hj : j < m
    · rw [if_pos hj, List.getElem?_map, List.getElem?_range hj]
      simp only [Option.map_some, tell1, ckLanes_get hj, onLane]
      by_cases e : j = f
      · subst e; simp
      · rw [if_neg e]; simp; intro h; omega
    · rw [if_neg hj, List.getElem?_eq_none (by simp; omega)]
  rw [e]
  by_cases hj : j < m
  · rw [if_pos hj]
    have hg : ks[j]? = some (ks.getD j 0) := by rw [getD_lt (by omega)]; exact List.getElem?_eq_getElem (by omega)
    by_cases hf : f < m ∧ t > ks.getD f 0
    · rw [if_pos hf, List.getElem?_set]
      by_cases e : j = f
      · subst e; rw [if_pos rfl, if_pos rfl, if_pos (by omega)]; simp only [minF, if_true]; rw [if_pos hf.2]
      · rw [if_neg e, if_neg (Ne.symm e), hg]
    · rw [if_neg hf, hg]
      by_cases e : j = f
      · subst e; rw [if_pos rfl]; simp only [minF, if_true]; rw [if_neg (fun h => hf ⟨hj, h⟩)]
      · rw [if_neg e]
  · rw [if_neg hj]
    split
    · rw [List.getElem?_eq_none (by rw [List.length_set]; omega)]
    · rw [List.getElem?_eq_none (by omega)]
theorem minL_start {ks : List Int} (h : 0 < ks.length) (h2 : ks.getD 0 0 < never) : minL ks (ks.getD 0 0) = minL ks never := by
  match ks, h with
  | k :: ks, _ =>
    simp at h2
    simp only [minL, List.foldl_cons, List.getD_cons_zero]
    have e1 : minF false k k = k := by simp [minF]
    have e2 : minF false never k = k := by simp [minF, h2]
    rw [e1, e2]

theorem arcsNil {D : RD} : Arcs D .nils [] := ⟨[], .nil, by simp, by simp, .inl ⟨.inl rfl, rfl⟩⟩
theorem arcBlk {G : GB} {b : Nat} {cap : Option Nat} {a c : Int} (h : G b = some (.cells none false [.int .i64 a, .int .i64 c])) : Arcs (Gr G) (.slc b 0 1 cap) [⟨a, c⟩] :=
  SlL.of (f := arcF) ⟨rfl, .inr ⟨b, 0, cap, none, false, _, rfl, h, rfl⟩⟩ (fun _ _ => rfl) (fun _ => rfl)

theorem ct_ProcessClocks {G : GB} {k : Nat} {tv : AV} {ts : List Nat} (hk : k < 256) (ht : SlL (Gr G) 1 byteC tv ts) (hb : ∀ t ∈ ts, t < 256) :
    Ct prog n_law19_ProcessClocks [.int .u8 (k : Int), tv] G [] (fun v G' H' => v = .bool true ∧ H' = []) := by
  have htl := ht.len
  refine ct_body (fn := f_law19_ProcessClocks) rfl rfl rfl ?_
  repeat refine wp_seq ?_
  refine wp_ops ?_
  refine s_mv ?_; refine wpi_nil ?_
  refine wp_seq ?_
  refine wp_seq ?_
  refine wp_ops ?_
  refine wpi_callH rfl (ct_awake19) ?_
  rintro v16 G16 H16 le16 ⟨rfl, rfl, rfl⟩
  try simp only [List.nil_append, List.cons_append]
  refine s_no ?_; refine s_mv ?_
  first
    | refine s_gn ?_
    | refine s_gy ?_
      refine s_mv ?_
  first
    | refine s_gn ?_
    | refine s_gy ?_
      refine s_ln ?_
  first
    | refine s_gn ?_
    | refine s_gy ?_
      refine s_ib ?_
  (first | refine s_pt ?_ | refine s_pf ?_ | refine s_pb ?_); refine wpi_nil ?_
  repeat refine wp_seq ?_
  refine wp_cond rfl (fun h1 => ?_) (fun h1 => ?_)
  · repeat refine wp_seq ?_
    refine wp_ops ?_
    refine wpi_callH rfl (ct_awake19) ?_
    rintro v23 G23 H23 le23 ⟨rfl, rfl, rfl⟩
    try simp only [List.nil_append, List.cons_append]
    refine s_mv ?_; refine wpi_nil ?_
    repeat refine wp_seq ?_
    refine wp_ret ?_
    exact ⟨_, .tmp rfl .nil, [], HLe.nil, rfl, rfl⟩
  have hts : ts.length ≤ 20 := by have := of_decide_eq_false h1; omega
  clear h1
  repeat refine wp_seq ?_
  refine wp_skip ?_
  obtain ⟨m, hm⟩ : ∃ m, m = 1 + k % 5 := ⟨_, rfl⟩
  have hm1 : 1 ≤ m := by omega
  have hm5 : m ≤ 5 := by omega
  repeat refine wp_seq ?_
  refine wp_ops ?_
  refine s_mv ?_; refine s_rm ?_; refine s_cv ?_; refine s_ad ?_; refine s_mv ?_; refine wpi_nil ?_
  rw [show 1 + (k : Int) % 5 = (m : Int) by omega]
  repeat refine wp_seq ?_
  refine wp_ops ?_
  refine s_bu ?_; refine s_bs fun b29 => ?_; refine s_bu ?_; refine wpi_alloc fun b6 => ?_; refine s_st ?_; refine wpi_nil ?_
  repeat refine wp_seq ?_
  refine wp_ops ?_
  refine s_mv ?_; refine s_ad ?_; refine s_mv ?_; refine s_bs fun b34 => ?_; refine s_bu ?_; refine wpi_alloc fun b7 => ?_; refine s_st ?_; refine wpi_nil ?_
  refine Wp.hle ((HLe.take (P := pt b29 (.cells none false [.str [122], .int .i64 0])) (by repeat (first | exact Take.head | apply Take.tail)) HLe.refl).trans (HLe.toX' (es := 2) (n := 1) rfl)) ?_
  refine Wp.hle ((HLe.take (P := pt b34 (.cells none false [.int .i64 (m : Int)])) (by repeat (first | exact Take.head | apply Take.tail)) HLe.refl).trans (HLe.toX' (es := 1) (n := 1) rfl)) ?_
  refine Wp.hle (HLe.nilS (es := 6)) ?_
  refine Wp.hle (HLe.nilS (es := 1)) ?_
  repeat refine wp_seq ?_
  refine wp_ops ?_
  refine s_mv ?_; refine wpi_nil ?_
  repeat refine wp_seq ?_
  refine wp_block ?_
  refine wp_loopG (α := AV × AV × AV × AV × List (List AV)) m (fun i _ => [(8, intN i), (5, intN m), (6, .ptr b6 0), (7, .ptr b7 0), (1, tv)])
    (fun i x => [slX 2 x.1 (i + 1) ((ckPlaces i).flatMap placeF), slA 6 x.2.1 i x.2.2.2.2.flatten, slX 1 x.2.2.1 (i + 1) ((m :: List.range i).map intN), slA 1 x.2.2.2.1 i ((List.range i).map intN), pt b6 (.cells none false [x.1, x.2.1]), pt b7 (.cells none false [.int .i64 ((m : Int) + 1), x.2.2.1, x.2.2.2.1])])
    (fun i x G' => All2 (transC (Gr G')) (ckTs i) x.2.2.2.2 ∧ ∀ c ∈ x.2.2.2.2, c.length = 6) (.slc b29 0 1 (some 1), .nils, .slc b34 0 1 (some 1), .nils, []) ⟨.nil, by simp⟩ (by repeat (first | exact SubE.nil | refine SubE.cons rfl ?_)) (by repeat (first | exact HLe.nil | (apply HLe.take; focus (repeat (first | exact Take.head | apply Take.tail))))) ?_
  rintro i ⟨pv, nv, ppv, ptv, cc⟩ G1 le1 hil ⟨hcc, hc6⟩
  repeat refine wp_seq ?_
  refine wp_ops ?_
  refine s_mv ?_; refine s_mv ?_; refine s_ib ?_; refine wpi_nil ?_
  repeat refine wp_seq ?_
  refine wp_cond rfl (fun h1 => ?_) (fun h1 => ?_)
  · have hlt : i < m := by simpa using h1
    clear h1
    have hcl : cc.flatten.length = i * 6 := by rw [flatten_len hc6, ← hcc.length, ckTs_len]
    repeat refine wp_seq ?_
    refine wp_skip ?_
    refine wp_seq ?_
    repeat refine wp_seq ?_
    refine wp_block ?_
    repeat refine wp_seq ?_
    refine wp_ops ?_
    refine s_fA ?_; refine s_ld ?_; refine s_mv ?_; refine s_ad ?_; refine s_cv ?_; refine s_bs fun b46 => ?_; refine s_bS ?_; refine s_sp ?_; refine s_bu ?_; refine s_bs fun b50 => ?_
    refine s_aX fun v51 f51 => ?_; refine s_fA ?_; refine s_s1 ?_; refine wpi_nil ?_
    repeat refine wp_seq ?_
    refine wp_ops ?_
    refine s_fA ?_; refine s_ld ?_; refine s_mv ?_; refine s_ad ?_; refine s_cv ?_; refine s_bs fun b58 => ?_; refine s_bS ?_; refine s_sp ?_; refine s_mv ?_; refine s_ad ?_
    refine s_bu ?_; refine s_bs fun b64 => ?_; refine s_bu ?_; refine s_bs fun b66 => ?_; refine s_bu ?_; refine s_bs fun b68 => ?_; refine s_ap fun v69 f69 => ?_; refine s_fA ?_
    refine s_s1 ?_; refine wpi_nil ?_
    refine Wp.freeze (b := b64) (by repeat (first | exact Take.head | apply Take.tail)) fun leA => ?_
    refine Wp.freeze (b := b66) (by repeat (first | exact Take.head | apply Take.tail)) fun leB => ?_
    have hA : Arcs (Gr (putG G1 b64 (.cells none false [.int .i64 ((i : Int) + 1), .int .i64 1]))) (.slc b64 0 1 (some 1)) [⟨(i : Int) + 1, 1⟩] := arcBlk (putG_same ..)
    have hB : Arcs (Gr (putG (putG G1 b64 (.cells none false [.int .i64 ((i : Int) + 1), .int .i64 1])) b66 (.cells none false [.int .i64 0, .int .i64 1]))) (.slc b66 0 1 (some 1)) [⟨0, 1⟩] := arcBlk (putG_same ..)
    have hT : transC (Gr (putG (putG G1 b64 (.cells none false [.int .i64 ((i : Int) + 1), .int .i64 1])) b66 (.cells none false [.int .i64 0, .int .i64 1]))) (ckTrans i) [.str [116, 97 + i], .int .i64 1, .int .i64 0, .slc b64 0 1 (some 1), .nils, .slc b66 0 1 (some 1)] :=
      ⟨_, _, _, rfl, SlL.mono hA (Gr.le leB) (fun _ _ h => h), arcsNil, hB⟩
    have hcc' := hcc.mono fun _ _ h => transC.mono (Gr.le (leA.trans leB)) h
    generalize putG (putG G1 b64 (.cells none false [.int .i64 ((i : Int) + 1), .int .i64 1])) b66 (.cells none false [.int .i64 0, .int .i64 1]) = GG at *
    repeat refine wp_seq ?_
    refine wp_ops ?_
    refine s_fA ?_; refine s_ld ?_; refine s_mv ?_; refine s_bs fun b74 => ?_; refine s_aX fun v75 f75 => ?_; refine s_fA ?_; refine s_s1 ?_; refine wpi_nil ?_
    have hrl : ((List.range i).map intN).length = i * 1 := by simp
    repeat refine wp_seq ?_
    refine wp_ops ?_
    refine s_fA ?_; refine s_ld ?_; refine s_mv ?_; refine s_bs fun b80 => ?_; refine s_ap fun v81 f81 => ?_; refine s_fA ?_; refine s_s1 ?_; refine wpi_nil ?_
    repeat refine wp_seq ?_
    refine wp_ops ?_
    refine s_mv ?_; refine s_ad ?_; refine s_mv ?_; refine wpi_nil ?_
    refine ⟨hlt, (v51, v69, v75, v81, cc ++ [[.str [116, 97 + i], .int .i64 1, .int .i64 0, .slc b64 0 1 (some 1), .nils, .slc b66 0 1 (some 1)]]), ⟨?_, ?_⟩, by repeat (first | exact SubE.nil | refine SubE.cons rfl ?_), ?_⟩
    · rw [ckTs_succ]; exact hcc'.append (.cons hT .nil)
    · intro c hc
      rcases List.mem_append.1 hc with h | h
      · exact hc6 _ h
      · simp at h; subst h; rfl
    · have g2 : (ckPlaces (i + 1)).flatMap placeF = (ckPlaces i).flatMap placeF ++ [.str [112, 97 + i], .int .i64 0] := by rw [ckPlaces_succ, List.flatMap_append]; rfl
      have g3 : (m :: List.range (i + 1)).map intN = (m :: List.range i).map intN ++ [intN i] := by rw [List.range_succ]; simp
      have g4 : (List.range (i + 1)).map intN = (List.range i).map intN ++ [intN i] := by rw [List.range_succ]; simp
      rw [g2, g3, g4]
      simp only [List.flatten_append]
      repeat (first | exact HLe.nil | (apply HLe.take; focus (repeat (first | exact Take.head | apply Take.tail))))
  have hi : i = m := by
    have : ¬ (i : Int) < m := of_decide_eq_false h1
    omega
  subst hi
  clear h1 hil hk hm
  repeat refine wp_seq ?_
  refine wp_exit ?_
  refine Wp.freezeX (es := 2) (by repeat (first | exact Take.head | apply Take.tail)) fun G2 le2 hp2 => ?_
  refine Wp.freezeS (es := 6) (by repeat (first | exact Take.head | apply Take.tail)) fun G3 le3 ht3 => ?_
  refine Wp.freezeX (es := 1) (by repeat (first | exact Take.head | apply Take.tail)) fun G4 le4 hp4 => ?_
  refine Wp.freezeS (es := 1) (by repeat (first | exact Take.head | apply Take.tail)) fun G5 le5 ht5 => ?_
  have hN : netR (Gr G5) (.agg [pv, nv]) (ckNet i) :=
    ⟨pv, nv, rfl, SlL.of (f := placeF) (by rw [show (ckNet i).places = ckPlaces i from rfl, ckPlaces_len]; exact hp2.mono (Gr.le (le3.trans (le4.trans le5)))) (fun _ _ => rfl) (fun _ => rfl),
      ⟨cc, hcc.mono fun _ _ h => transC.mono (Gr.le (le2.trans (le3.trans (le4.trans le5)))) h, hc6, by rw [show (ckNet i).trans = ckTs i from rfl, ckTs_len]; exact ht3.mono (Gr.le (le4.trans le5))⟩⟩
  have hP : partR (Gr G5) (.agg [.int .i64 ((i : Int) + 1), ppv, ptv]) (ckPart i) :=
    ⟨ppv, ptv, rfl, natR (SlL.of (f := natF) (by rw [natF_map]; simp only [List.length_cons, List.length_range]; exact hp4.mono (Gr.le le5)) (fun _ _ => rfl) (fun _ => rfl)), natR (SlL.of (f := natF) (by rw [natF_map]; simp only [List.length_range]; exact ht5) (fun _ _ => rfl) (fun _ => rfl))⟩
  obtain ⟨f1, f2, f3, f4, f5⟩ := ck_facts i hm1 hm5
  have h0 := partOkB_zero f1
  have htG := ht.mono (Gr.le (le1.trans (le2.trans (le3.trans (le4.trans le5))))) (fun _ _ h => h)
  clear hp2 ht3 hp4 ht5 hcc
  refine wp_seq ?_
  refine wp_ops ?_
  refine s_ld ?_; refine s_ld ?_; refine s_mv ?_
  refine wpi_callF rfl (ct_ProcNew (id := (i : Int)) (h := 1000) hN (ckNet_ok i hm5) hP (by simp [ckPart]; omega) (by simp [ckPart]; omega) (fun _ => by rw [f2, ckLanes_len]; unfold mostLanes; omega)) (by repeat (first | exact HLe.splitNil | (apply HLe.splitCons; focus (repeat (first | exact Take.head | apply Take.tail))))) ?_
  rintro v87 G87 H87 le87 ⟨-, -, hR⟩
  try simp only [List.nil_append, List.cons_append]
  obtain ⟨b11, rfl, nv1, nv2, pv1, pv2, mv, av, b32, b20, b24, b26, b30, iv, ov, cv, sv, -, -, -, -, l, -, L, hL, rfl⟩ := hR h0 (by omega) (by show (i : Int) < (i : Int) + 1; omega)
  obtain rfl := ck_lanes i hm1 hm5 hL
  rw [f4, f5, ckLanes_len]
  replace htG := htG.mono (Gr.le le87) (fun _ _ h => h)
  refine s_mv ?_; refine s_ex ?_; refine s_ex ?_; refine s_mv ?_; refine s_mv ?_; refine wpi_nil ?_
  refine wp_seq ?_
  refine wp_seq ?_
  refine wp_ops ?_
  refine s_mv ?_; refine s_ib ?_; refine s_mv ?_
  first
    | refine s_gn ?_
    | refine s_gy ?_
      refine s_mv ?_
  first
    | refine s_gn ?_
    | refine s_gy ?_
      refine s_eq ?_
  (first | refine s_pt ?_ | refine s_pf ?_ | refine s_pb ?_); refine wpi_nil ?_
  repeat refine wp_seq ?_
  refine wp_cond rfl (fun h1 => ?_) (fun h1 => ?_)
  · cases h1
  repeat refine wp_seq ?_
  refine wp_skip ?_
  repeat refine wp_seq ?_
  refine wp_ops ?_
  refine s_mv ?_; refine s_mk fun b97 => ?_; refine s_mv ?_; refine wpi_nil ?_
  have hr0 : repl [AV.int .i64 0] i = zerosF i := repl_one (f := intV) (x := 0) i
  rw [hr0]
  have hz : zerosF i = (List.replicate i (0 : Int)).map intV := rfl
  rw [hz]
  have htGl := htG.len
  repeat refine wp_seq ?_
  refine wp_ops ?_
  refine s_mv ?_; refine wpi_nil ?_
  have hcv : ∀ (ks : List Int), ks.length = i → [slA 1 cv i (ks.map intV)] = [slA 1 cv ks.length (ks.map intV)] := fun ks h => by rw [h]
  have hlen0 : (List.replicate i (0 : Int)).length = i := by simp
  generalize hb11 : pt b11 _ = PB
  repeat refine wp_seq ?_
  refine wp_block ?_
  refine wp_loopX (α := List Int) ts.length (fun j _ => [(12, intN j), (11, .slc b97 0 i (some i)), (9, .ptr b11 0), (5, intN i), (1, tv)])
    (fun j ks => [slA 3 iv i ((ckLanes i).flatMap laneF), slA 1 cv i (ks.map intV), PB, pt b97 (.cells none false (ks.map intV))])
    (fun _ ks => ks.length = i ∧ ∀ x ∈ ks, x < 256) (List.replicate i 0) ⟨hlen0, fun x hx => by rw [(List.mem_replicate.1 hx).2]; decide⟩ (by repeat (first | exact SubE.nil | refine SubE.cons rfl ?_)) (by repeat (first | exact HLe.nil | (apply HLe.take; focus (repeat (first | exact Take.head | apply Take.tail))))) ?_
  rintro j ks hjl ⟨hkl, hkb⟩
  repeat refine wp_seq ?_
  refine wp_ops ?_
  refine s_mv ?_; refine s_mv ?_; refine s_ln ?_; refine s_ib ?_; refine wpi_nil ?_
  repeat refine wp_seq ?_
  refine wp_cond rfl (fun h1 => ?_) (fun h1 => ?_)
  · have hlt : j < ts.length := by simpa using h1
    clear h1
    obtain ⟨lb, lo, lcap, lop, lro, lc, y, rfl, k2, k3, k4, k5, k6⟩ := htG.at hlt
    obtain rfl : y = _ := k3
    have k7 := k6 0 _ rfl
    have htb : ts[j] < 256 := hb _ (List.getElem_mem hlt)
    generalize ts[j] = t at *
    obtain ⟨f, hf⟩ : ∃ f, f = t % (i + 1) := ⟨_, rfl⟩
    have hfi : (t : Int) % ((i : Int) + 1) = (f : Int) := by rw [hf]; rfl
    have hfl : f < i + 1 := by rw [hf]; exact Nat.mod_lt _ (by omega)
    repeat refine wp_seq ?_
    refine wp_skip ?_
    refine wp_seq ?_
    repeat refine wp_seq ?_
    refine wp_block ?_
    repeat refine wp_seq ?_
    refine wp_ops ?_
    refine s_mv ?_; refine s_mv ?_; (first | refine s_ix ?_ | refine s_ixi ?_); refine s_ld ?_; refine s_cv ?_; refine s_mv ?_; refine s_ad ?_; refine s_rm ?_; refine s_mv ?_
    refine wpi_nil ?_
    rw [hfi]
    refine wp_seq ?_
    refine wp_ops ?_
    rw [← hb11]
    have hct := ct_ComeT (G := G87) (b := b11) (id := (i : Int)) (pn := (ckPart i).n) (xv := .iface 98 (.ptr b32 0)) (pv1 := pv1) (pv2 := pv2) (iv := iv) (ov := ov) (cv := cv) (sv := sv) (h := hor 1000) (bg := false) (dn := false) (ins := ckLanes i) (ks := ks) (s := (f : Int)) (d := (i : Int)) (t := (t : Int)) (pl := 0) (mn := 0) (by rw [ckLanes_len, hkl]) (by omega) (by rw [ckLanes_len]; omega)
    rw [ckLanes_len, hkl, ck_tell hkl] at hct
    refine s_mv ?_; refine s_mv ?_; refine s_mv ?_; refine s_mv ?_; refine s_mv ?_; (first | refine s_ix ?_ | refine s_ixi ?_); refine s_ld ?_; refine s_cv ?_; refine s_bu ?_
    refine s_bu ?_
    refine wpi_callF rfl (hct) (by repeat (first | exact HLe.splitNil | (apply HLe.splitCons; focus (repeat (first | exact Take.head | apply Take.tail))))) ?_
    rintro v122 G122 H122 le122 ⟨rfl, rfl⟩
    try simp only [List.nil_append, List.cons_append]
    refine wpi_nil ?_
    obtain ⟨ks', hks'⟩ : ∃ ks', ks' = if f < i ∧ (t : Int) > ks.getD f 0 then ks.set f (t : Int) else ks := ⟨_, rfl⟩
    rw [← hks']
    have hkl' : ks'.length = i := by rw [hks']; split <;> simp [hkl]
    have hkb' : ∀ x ∈ ks', x < 256 := by
      intro x hx
      rw [hks'] at hx
      split at hx
      · rcases List.mem_or_eq_of_mem_set hx with h | h
        · exact hkb x h
        · subst h; omega
      · exact hkb x hx
    clear hct
    refine wp_join [(13, intN f), (12, intN j), (11, .slc b97 0 i (some i)), (9, .ptr b11 0), (5, intN i), (1, .slc lb lo ts.length lcap)]
      [slA 3 iv i ((ckLanes i).flatMap laneF), slA 1 cv i (ks'.map intV), pt b11 (.cells none false (procC (i : Int) (ckPart i).n (.iface 98 (.ptr b32 0)) pv1 pv2 iv ov cv sv (hor 1000) false false)), pt b97 (.cells none false (ks'.map intV))] ?_ ?_
    · refine wp_seq ?_
      refine wp_ops ?_
      refine s_mv ?_; refine s_mv ?_; refine s_ib ?_; refine s_mv ?_
      refine wpi_case 126 rfl (fun h => ?_) (fun h => ?_)
      · have hfi' : f < i := by have := of_decide_eq_true h; omega
        have g1 : Ab.part (ks.map intV) (0 + f * 1) none = some (.int .i64 (ks.getD f 0)) := by rw [part_map1 (f := intV) (by omega), getD_lt (by omega)]
        first
          | refine s_gn ?_
          | refine s_gy ?_
            refine s_mv ?_
        first
          | refine s_gn ?_
          | refine s_gy ?_
            refine s_mv ?_
        first
          | refine s_gn ?_
          | refine s_gy ?_
            first | refine s_ix ?_ | refine s_ixi ?_
        first
          | refine s_gn ?_
          | refine s_gy ?_
            refine s_ld ?_
        first
          | refine s_gn ?_
          | refine s_gy ?_
            refine s_cv ?_
        first
          | refine s_gn ?_
          | refine s_gy ?_
            refine s_mv ?_
        first
          | refine s_gn ?_
          | refine s_gy ?_
            refine s_mv ?_
        first
          | refine s_gn ?_
          | refine s_gy ?_
            first | refine s_ix ?_ | refine s_ixi ?_
        first
          | refine s_gn ?_
          | refine s_gy ?_
            refine s_ld ?_
        first
          | refine s_gn ?_
          | refine s_gy ?_
            refine s_ib ?_
        (first | refine s_pt ?_ | refine s_pf ?_ | refine s_pb ?_); refine wpi_nil ?_
        repeat refine wp_seq ?_
        refine wp_cond rfl (fun h1 => ?_) (fun h1 => ?_)
        · have hgt : (t : Int) > ks.getD f 0 := of_decide_eq_true h1
          rw [if_pos ⟨hfi', hgt⟩] at hks'
          have hst : splice (ks.map intV) (0 + f * 1) [.int .i64 (t : Int)] = some (ks'.map intV) := by rw [hks']; exact splice_set1 (f := intV) (by omega)
          repeat refine wp_seq ?_
          refine wp_ops ?_
          refine s_mv ?_; refine s_mv ?_; refine s_mv ?_; refine s_mv ?_; (first | refine s_ix ?_ | refine s_ixi ?_); refine s_ld ?_; refine s_cv ?_; (first | refine s_ix ?_ | refine s_ixi ?_)
          refine s_s1 ?_; refine wpi_nil ?_
          exact ⟨rfl, by repeat (first | exact SubE.nil | refine SubE.cons rfl ?_), by repeat (first | exact HLe.nil | (apply HLe.take; focus (repeat (first | exact Take.head | apply Take.tail))))⟩
        · have hgt : ¬ (t : Int) > ks.getD f 0 := of_decide_eq_false h1
          rw [if_neg (fun hh => hgt hh.2)] at hks'
          subst hks'
          repeat refine wp_seq ?_
          refine wp_skip ?_
          exact ⟨rfl, by repeat (first | exact SubE.nil | refine SubE.cons rfl ?_), by repeat (first | exact HLe.nil | (apply HLe.take; focus (repeat (first | exact Take.head | apply Take.tail))))⟩
      · have hfi' : ¬ f < i := by have := of_decide_eq_false h; omega
        first
          | refine s_gn ?_
          | refine s_gy ?_
            refine s_mv ?_
        first
          | refine s_gn ?_
          | refine s_gy ?_
            refine s_mv ?_
        first
          | refine s_gn ?_
          | refine s_gy ?_
            first | refine s_ix ?_ | refine s_ixi ?_
        first
          | refine s_gn ?_
          | refine s_gy ?_
            refine s_ld ?_
        first
          | refine s_gn ?_
          | refine s_gy ?_
            refine s_cv ?_
        first
          | refine s_gn ?_
          | refine s_gy ?_
            refine s_mv ?_
        first
          | refine s_gn ?_
          | refine s_gy ?_
            refine s_mv ?_
        first
          | refine s_gn ?_
          | refine s_gy ?_
            first | refine s_ix ?_ | refine s_ixi ?_
        first
          | refine s_gn ?_
          | refine s_gy ?_
            refine s_ld ?_
        first
          | refine s_gn ?_
          | refine s_gy ?_
            refine s_ib ?_
        (first | refine s_pt ?_ | refine s_pf ?_ | refine s_pb ?_); refine wpi_nil ?_
        repeat refine wp_seq ?_
        refine wp_cond rfl (fun h1 => ?_) (fun h1 => ?_)
        · cases h1
        · rw [if_neg (fun hh => hfi' hh.1)] at hks'
          subst hks'
          repeat refine wp_seq ?_
          refine wp_skip ?_
          exact ⟨rfl, by repeat (first | exact SubE.nil | refine SubE.cons rfl ?_), by repeat (first | exact HLe.nil | (apply HLe.take; focus (repeat (first | exact Take.head | apply Take.tail))))⟩
    clear hks' hkb hkl
    have g0 : Ab.part (ks'.map intV) (0 + (0 : Int).toNat * 1) none = some (.int .i64 (ks'.getD 0 0)) := by
      rw [show (0 : Int).toNat = 0 from rfl, part_map1 (f := intV) (by omega), getD_lt (by omega)]
    repeat refine wp_seq ?_
    refine wp_ops ?_
    refine s_mv ?_; (first | refine s_ix ?_ | refine s_ixi ?_); refine s_ld ?_; refine s_mv ?_; refine wpi_nil ?_
    repeat refine wp_seq ?_
    refine wp_ops ?_
    refine s_mv ?_; refine wpi_nil ?_
    repeat refine wp_seq ?_
    refine wp_block ?_
    refine wp_loopX (α := Unit) i (fun q _ => [(15, intN q), (14, .int .i64 (minL (ks'.take q) (ks'.getD 0 0))), (12, intN j), (11, .slc b97 0 i (some i)), (9, .ptr b11 0), (5, intN i), (1, .slc lb lo ts.length lcap)])
      (fun _ _ => [slA 3 iv i ((ckLanes i).flatMap laneF), slA 1 cv i (ks'.map intV), pt b11 (.cells none false (procC (i : Int) (ckPart i).n (.iface 98 (.ptr b32 0)) pv1 pv2 iv ov cv sv (hor 1000) false false)), pt b97 (.cells none false (ks'.map intV))]) (fun _ _ => True) () trivial (by repeat (first | exact SubE.nil | refine SubE.cons rfl ?_)) (by repeat (first | exact HLe.nil | (apply HLe.take; focus (repeat (first | exact Take.head | apply Take.tail))))) ?_
    rintro q - hqi -
    repeat refine wp_seq ?_
    refine wp_ops ?_
    refine s_mv ?_; refine s_mv ?_; refine s_ib ?_; refine wpi_nil ?_
    repeat refine wp_seq ?_
    refine wp_cond rfl (fun h1 => ?_) (fun h1 => ?_)
    · have hqt : q < i := by simpa using h1
      clear h1
      have g1 : Ab.part (ks'.map intV) (0 + q * 1) none = some (.int .i64 (ks'.getD q 0)) := by rw [part_map1 (f := intV) (by omega), getD_lt (by omega)]
      have hmn : minI false (.int .i64 (minL (ks'.take q) (ks'.getD 0 0))) [.int .i64 (ks'.getD q 0)] = some (.int .i64 (minL (ks'.take (q + 1)) (ks'.getD 0 0))) := by
        rw [minL_take _ _ (by omega), getD_lt (show q < ks'.length by omega)]; rfl
      repeat refine wp_seq ?_
      refine wp_skip ?_
      refine wp_seq ?_
      repeat refine wp_seq ?_
      refine wp_block ?_
      repeat refine wp_seq ?_
      refine wp_ops ?_
      refine s_mv ?_; refine s_mv ?_; refine s_mv ?_; (first | refine s_ix ?_ | refine s_ixi ?_); refine s_ld ?_; refine s_mn ?_; refine s_mv ?_; refine wpi_nil ?_
      repeat refine wp_seq ?_
      refine wp_ops ?_
      refine s_mv ?_; refine s_ad ?_; refine s_mv ?_; refine wpi_nil ?_
      exact ⟨rfl, hqt, (), trivial, by repeat (first | exact SubE.nil | refine SubE.cons rfl ?_), by repeat (first | exact HLe.nil | (apply HLe.take; focus (repeat (first | exact Take.head | apply Take.tail))))⟩
    have hq : q = i := by
      have : ¬ (q : Int) < i := of_decide_eq_false h1
      omega
    subst hq
    rw [← hkl', List.take_length, minL_start (by omega) (by
      have := hkb' (ks'.getD 0 0) (by rw [getD_lt (by omega)]; exact List.getElem_mem _)
      unfold never; omega)]
    rw [hkl']
    clear h1
    repeat refine wp_seq ?_
    refine wp_exit ?_
    subst hkl'
    refine wp_seq ?_
    refine wp_ops ?_
    refine WpI.fact (fun S F p => slA_form (es := 1) (by repeat (first | exact Take.head | apply Take.tail)) p) (q := SlForm 1 cv ks'.length (ks'.map intV)) fun hfk => ?_
    refine s_mv ?_
    refine wpi_callH rfl (ct_Safe (ks := ks') (id := (ks'.length : Int)) (pn := (ckPart ks'.length).n) (xv := .iface 98 (.ptr b32 0)) (pv1 := pv1) (pv2 := pv2) (iv := iv) (ov := ov) (cv := cv) (sv := sv) (h := hor 1000) (bg := false) (dn := false) (.h (by repeat (first | exact Take.head | apply Take.tail))) (slA_ints (by repeat (first | exact Take.head | apply Take.tail)) hfk) (by omega)) ?_
    rintro v161 G161 H161 le161 ⟨rfl, rfl, rfl⟩
    try simp only [List.nil_append, List.cons_append]
    refine s_mv ?_; refine s_ib ?_; refine wpi_nil ?_
    repeat refine wp_seq ?_
    refine wp_cond rfl (fun h1 => ?_) (fun h1 => ?_)
    · exact absurd rfl (ne_of h1)
    · repeat refine wp_seq ?_
      refine wp_skip ?_
      repeat refine wp_seq ?_
      refine wp_ops ?_
      refine s_mv ?_; refine s_ad ?_; refine s_mv ?_; refine wpi_nil ?_
      refine ⟨rfl, hlt, ks', ⟨rfl, hkb'⟩, by repeat (first | exact SubE.nil | refine SubE.cons rfl ?_), by repeat (first | exact HLe.nil | (apply HLe.take; focus (repeat (first | exact Take.head | apply Take.tail))))⟩
  · repeat refine wp_seq ?_
    refine wp_exit ?_
    repeat refine wp_seq ?_
    refine wp_ops ?_
    refine s_mv ?_; refine wpi_nil ?_
    repeat refine wp_seq ?_
    refine wp_ret ?_
    exact ⟨_, .tmp rfl .nil, [], HLe.nil, rfl, rfl⟩

