/-
  A part of the proof: contracts of functions of the program, over the abstract machine.
-/
import Derived.Test.YtnhfopfmgodllaaF1
noncomputable section
namespace Go.Sl
open Go Go.Ab Cd
set_option linter.unusedVariables false
set_option linter.unusedSimpArgs false
set_option maxRecDepth 10000

def mkPlace (tok : List Nat) (i : Nat) : Place := ⟨[112, 97 + i], ((tok.getD i 0 % 5 : Nat) : Int)⟩
def mkIns1 (m : Nat) (x : Act) : List Arc := putArc [] ((x.i : Int) % (m : Int)) (1 + (x.i : Int) / 64 % 2)
def mkIns (m : Nat) (x : Act) : List Arc := if (x.j : Int) % 3 = 0 then putArc (mkIns1 m x) ((x.j : Int) / 3 % (m : Int)) 1 else mkIns1 m x
def mkNots (m : Nat) (x : Act) : List Arc := if (x.n : Int) % 4 = 0 then putArc [] ((x.n : Int) / 4 % (m : Int)) (1 + (x.n : Int) / 64) else []
def mkOuts1 (m : Nat) (x : Act) : List Arc := if (x.o : Int) % 5 > 0 then putArc [] ((x.o : Int) / 5 % (m : Int)) (1 + (x.o : Int) / 128) else []
def mkOuts (m : Nat) (x : Act) : List Arc := if (x.q : Int) % 3 > 0 then putArc (mkOuts1 m x) ((x.q : Int) / 3 % (m : Int)) 1 else mkOuts1 m x
def mkDelay (x : Act) : Int := if (x.d : Int) % 5 = 0 ∧ (x.d : Int) < 128 then 1 else (x.d : Int) % 5
def mkTrans (m i : Nat) (x : Act) : Trans := ⟨[116, 48 + i, 46, 120], mkDelay x, (x.p : Int) % 3, mkIns m x, mkNots m x, mkOuts m x⟩
def np (d : Draft) : Nat := 1 + d.tokens.length % 7
def mkPlaces (d : Draft) (k : Nat) : List Place := (List.range k).map (mkPlace d.tokens)
def mkTs (d : Draft) (k : Nat) : List Trans := (List.range k).map fun i => mkTrans (np d) i (d.acts.getD i default)
def make (d : Draft) : Net := ⟨mkPlaces d (np d), mkTs d (min d.acts.length 9)⟩
def placeF (p : Place) : List AV := [.str p.name, .int .i64 p.tokens]
theorem putArc_len {l : List Arc} {p n : Int} : (putArc l p n).length ≤ l.length + 1 := by unfold putArc; split <;> simp
theorem mkPlaces_succ (d : Draft) (k : Nat) : mkPlaces d (k + 1) = mkPlaces d k ++ [mkPlace d.tokens k] := by simp [mkPlaces, List.range_succ]
theorem mkTs_succ (d : Draft) (k : Nat) : mkTs d (k + 1) = mkTs d k ++ [mkTrans (np d) k (d.acts.getD k default)] := by simp [mkTs, List.range_succ]
theorem mkPlaces_len (d : Draft) (k : Nat) : (mkPlaces d k).length = k := by simp [mkPlaces]
theorem mkTs_len (d : Draft) (k : Nat) : (mkTs d k).length = k := by simp [mkTs]

theorem mkOuts1_len {m : Nat} {x : Act} : (mkOuts1 m x).length < 1000 := by
  unfold mkOuts1; split
  · exact Nat.lt_of_le_of_lt putArc_len (by decide)
  · decide
theorem flatten_len6 {d : Draft} {i : Nat} {G : GB} {cc : List (List AV)} (h : ∀ c ∈ cc, c.length = 6) (h2 : All2 (transC (Gr G)) (mkTs d i) cc) : cc.flatten.length = i * 6 := by
  rw [flatten_len h, ← h2.length, mkTs_len]
@[reducible] def mkE (b9 b8 b1 b2 b3 i m : Nat) : Env := [(9, .ptr b9 0), (8, .ptr b8 0), (7, .int .i64 i), (6, .int .i64 m), (1, .ptr b1 0), (2, .ptr b2 0), (3, .ptr b3 0)]
@[reducible] def mkH (b9 b8 b1 b2 b3 i : Nat) (X : Act) (ttv : AV) (cc : List (List AV)) (pv tv av iv nv ov : AV) (dl : Int) (a b c : List Arc) : List As :=
  [slA 2 iv a.length (a.flatMap arcF), slA 2 nv b.length (b.flatMap arcF), slA 2 ov c.length (c.flatMap arcF), pt b9 (.cells none false [.str [116, 48 + i, 46, 120], .int .i64 dl, .int .i64 ((X.p : Int) % 3), iv, nv, ov]), pt b8 (.cells none false [.int .u8 X.d, .int .u8 X.p, .int .u8 X.i, .int .u8 X.j, .int .u8 X.n, .int .u8 X.o, .int .u8 X.q]),
    slA 6 ttv i cc.flatten, pt b3 (.cells none false [pv, ttv]), pt b2 (.cells none false [.nils, .nils]), pt b1 (.cells none false [tv, av])]

theorem ct_Make {G : GB} {dv : AV} {d : Draft} (hd : draftR (Gr G) dv d) (hl : d.tokens.length ≤ 60) (hl2 : d.acts.length ≤ 12) :
    Ct prog n_ref05_Make [dv] G [] (fun v G' H' => netR (Gr G') v (make d) ∧ H' = []) := by
  obtain ⟨tv, av, rfl, ht, ha, hb, hc⟩ := hd
  have hnp : 1 ≤ np d ∧ np d ≤ 7 := by unfold np; omega
  refine ct_body (fn := f_ref05_Make) rfl rfl rfl ?_
  repeat refine wp_seq ?_
  refine wp_ops ?_
  refine s_bx fun b1 => ?_; refine wpi_alloc fun b2 => ?_; refine wpi_nil ?_
  repeat refine wp_seq ?_
  refine wp_ops ?_
  refine wpi_alloc fun b3 => ?_; refine wpi_nil ?_
  refine Wp.hle (HLe.nilS (es := 2)) ?_
  repeat refine wp_seq ?_
  refine wp_ops ?_
  refine s_mv ?_; refine wpi_nil ?_
  repeat refine wp_seq ?_
  refine wp_block ?_
  refine wp_loopX (α := AV) (np d) (fun i pv => [(4, .int .i64 i), (1, .ptr b1 0), (2, .ptr b2 0), (3, .ptr b3 0)])
    (fun i pv => [slA 2 pv i ((mkPlaces d i).flatMap placeF), pt b3 (.cells none false [pv, .nils]), pt b2 (.cells none false [.nils, .nils]), pt b1 (.cells none false [tv, av])]) (fun _ _ => True) .nils trivial
    (by repeat (first | exact SubE.nil | refine SubE.cons rfl ?_)) (by repeat (first | exact HLe.nil | (apply HLe.take; focus (repeat (first | exact Take.head | apply Take.tail))))) ?_
  rintro i pv hil -
  repeat refine wp_seq ?_
  refine wp_ops ?_
  refine s_mv ?_; refine s_fA ?_; refine s_ld ?_; refine s_ln ?_; refine s_rm ?_; refine s_ad ?_; refine s_ib ?_; refine wpi_nil ?_
  repeat refine wp_seq ?_
  refine wp_cond rfl (fun h1 => ?_) (fun h1 => ?_)
  · have hlt : i < np d := by simp [np] at h1 ⊢; omega
    repeat refine wp_seq ?_
    refine wp_skip ?_
    refine wp_seq ?_
    repeat refine wp_seq ?_
    refine wp_block ?_
    repeat refine wp_seq ?_
    refine wp_ops ?_
    refine s_mv ?_; refine wpi_nil ?_
    refine wp_join [(5, .int .i64 ((d.tokens.getD i 0 % 5 : Nat) : Int)), (4, .int .i64 i), (1, .ptr b1 0), (2, .ptr b2 0), (3, .ptr b3 0)] [slA 2 pv i ((mkPlaces d i).flatMap placeF), pt b3 (.cells none false [pv, .nils]), pt b2 (.cells none false [.nils, .nils]), pt b1 (.cells none false [tv, av])] ?_ ?_
    · repeat refine wp_seq ?_
      refine wp_ops ?_
      refine s_mv ?_; refine s_fA ?_; refine s_ld ?_; refine s_ln ?_; refine s_ib ?_; refine wpi_nil ?_
      repeat refine wp_seq ?_
      refine wp_cond rfl (fun h1 => ?_) (fun h1 => ?_)
      · have hlt2 : i < d.tokens.length := by simpa using h1
        have hv : d.tokens[i] < 256 := hb _ (List.getElem_mem hlt2)
        obtain ⟨b, o, cap, op, ro, c, x, rfl, k2, k3, k4, k5, k6⟩ := ht.at hlt2
        obtain rfl : x = _ := k3
        have k7 := k6 0 _ rfl
        repeat refine wp_seq ?_
        refine wp_ops ?_
        refine s_fA ?_; refine s_ld ?_; refine s_mv ?_; (first | refine s_ix ?_ | refine s_ixi ?_); refine s_ld ?_; refine s_rm ?_; refine s_cv ?_; refine s_mv ?_; refine wpi_nil ?_
        refine ⟨rfl, ?_, ?_⟩
        · rw [getD_lt hlt2]; repeat (first | exact SubE.nil | refine SubE.cons rfl ?_)
        · repeat (first | exact HLe.nil | (apply HLe.take; focus (repeat (first | exact Take.head | apply Take.tail))))
      · have hge : ¬ i < d.tokens.length := by simpa using h1
        repeat refine wp_seq ?_
        refine wp_skip ?_
        refine ⟨rfl, ?_, ?_⟩
        · rw [getD_ge (by omega)]; repeat (first | exact SubE.nil | refine SubE.cons rfl ?_)
        · repeat (first | exact HLe.nil | (apply HLe.take; focus (repeat (first | exact Take.head | apply Take.tail))))
    · repeat refine wp_seq ?_
      refine wp_ops ?_
      refine s_fA ?_; refine s_ld ?_; refine s_mv ?_; refine s_ad ?_; refine s_cv ?_; refine s_bs fun b36 => ?_; refine s_bS ?_; refine s_sp ?_; refine s_mv ?_; refine s_bu ?_
      refine s_bs fun b41 => ?_; refine s_ap fun v42 f42 => ?_; refine s_fA ?_; refine s_s1 ?_; refine wpi_nil ?_
      repeat refine wp_seq ?_
      refine wp_ops ?_
      refine s_mv ?_; refine s_ad ?_; refine s_mv ?_; refine wpi_nil ?_
      refine ⟨rfl, hlt, v42, trivial, ?_, ?_⟩
      · repeat (first | exact SubE.nil | refine SubE.cons rfl ?_)
      · rw [mkPlaces_succ]; simp only [List.flatMap_append]; repeat (first | exact HLe.nil | (apply HLe.take; focus (repeat (first | exact Take.head | apply Take.tail))))
  · have hi : i = np d := by simp [np] at h1 ⊢; unfold np at hil; omega
    subst hi
    clear h1 hil
    repeat refine wp_seq ?_
    refine wp_exit ?_
    refine Wp.freezeS (by repeat (first | exact Take.head | apply Take.tail)) ?_
    intro G1 le1 hp1
    have hpl : SlL (Gr G1) 2 placeC pv (mkPlaces d (np d)) := SlL.of (by rw [mkPlaces_len]; exact hp1) (fun _ _ => rfl) (fun _ => rfl)
    have ha1 := ha.mono (Gr.le le1) (fun _ _ h => h)
    have hpn := hp1.len
    repeat refine wp_seq ?_
    refine wp_ops ?_
    refine s_fA ?_; refine s_ld ?_; refine s_ln ?_; refine s_mv ?_; refine wpi_nil ?_
    refine Wp.hle (HLe.nilS (es := 6)) ?_
    repeat refine wp_seq ?_
    refine wp_ops ?_
    refine s_mv ?_; refine wpi_nil ?_
    repeat refine wp_seq ?_
    refine wp_block ?_
    refine wp_loopG (α := AV × List (List AV)) (min d.acts.length 9) (fun i x => [(7, .int .i64 i), (6, .int .i64 (np d)), (1, .ptr b1 0), (2, .ptr b2 0), (3, .ptr b3 0)])
      (fun i x => [slA 6 x.1 i x.2.flatten, pt b3 (.cells none false [pv, x.1]), pt b2 (.cells none false [.nils, .nils]), pt b1 (.cells none false [tv, av])]) (fun i x G' => All2 (transC (Gr G')) (mkTs d i) x.2 ∧ ∀ c ∈ x.2, c.length = 6) (.nils, []) ⟨.nil, by simp⟩
      (by repeat (first | exact SubE.nil | refine SubE.cons rfl ?_)) (by repeat (first | exact HLe.nil | (apply HLe.take; focus (repeat (first | exact Take.head | apply Take.tail))))) ?_
    rintro i ⟨ttv, cc⟩ G2 le2 hil ⟨hcc, hc6⟩
    have ha2 := ha1.mono (Gr.le le2) (fun _ _ h => h)
    have hpl2 := hpl.mono (Gr.le le2) (fun _ _ h => h)
    refine wp_seq ?_
    refine wp_seq ?_
    refine wp_ops ?_
    refine s_mv ?_; refine s_fA ?_; refine s_ld ?_; refine s_ln ?_; refine s_ib ?_; refine s_mv ?_
    refine wpi_case 52 rfl (fun h2 => ?_) (fun h2 => ?_)
    · have hlt : i < d.acts.length := by simpa using h2
      first
        | refine s_gn ?_
        | refine s_gy ?_
          refine s_mv ?_
      first
        | refine s_gn ?_
        | refine s_gy ?_
          refine s_ib ?_
      (first | refine s_pt ?_ | refine s_pf ?_ | refine s_pb ?_); refine wpi_nil ?_
      repeat refine wp_seq ?_
      refine wp_cond rfl (fun h1 => ?_) (fun h1 => ?_)
      · have hlt9 : i < min d.acts.length 9 := by
          have : (i : Int) < 9 := of_decide_eq_true h1
          omega
        have hx : d.acts[i].ok := hc _ (List.getElem_mem hlt)
        obtain ⟨o1, o2, o3, o4, o5, o6, o7⟩ := hx
        obtain ⟨b, o, cap, op, ro, c, x, rfl, k2, k3, k4, k5, k6⟩ := ha2.at hlt
        obtain rfl : x = _ := k3
        have hdx : d.acts.getD i default = d.acts[i] := getD_lt hlt
        generalize hX : d.acts[i] = X at *
        clear k6 k4 h1 h2
        repeat refine wp_seq ?_
        refine wp_skip ?_
        refine wp_seq ?_
        repeat refine wp_seq ?_
        refine wp_block ?_
        repeat refine wp_seq ?_
        refine wp_ops ?_
        refine s_fA ?_; refine s_ld ?_; refine s_mv ?_; (first | refine s_ix ?_ | refine s_ixi ?_); refine s_ld ?_; refine wpi_alloc fun b8 => ?_; refine s_st ?_; refine wpi_nil ?_
        repeat refine wp_seq ?_
        refine wp_ops ?_
        refine s_mv ?_; refine s_ad ?_; refine s_cv ?_; refine s_bs fun b66 => ?_; refine s_bS ?_; refine s_sp ?_; refine s_sp ?_; refine s_fA ?_; refine s_ld ?_; refine s_rm ?_
        refine s_cv ?_; refine s_fA ?_; refine s_ld ?_; refine s_rm ?_; refine s_cv ?_; refine s_bu ?_; refine wpi_alloc fun b9 => ?_; refine s_st ?_; refine wpi_nil ?_
        refine Wp.hle (HLe.nilS (es := 2)) ?_
        refine Wp.hle (HLe.nilS (es := 2)) ?_
        refine Wp.hle (HLe.nilS (es := 2)) ?_
        -- the first place of which it takes
        refine wp_joinX (α := AV) (fun _ => mkE b9 b8 b1 b2 b3 i (np d)) (fun iv => mkH b9 b8 b1 b2 b3 i X ttv cc pv tv (.slc b o d.acts.length cap) iv .nils .nils ((X.d : Int) % 5) (mkIns1 (np d) X) [] []) (fun _ => True) ?_ ?_
        · refine wp_ops ?_
          refine s_fA ?_; refine s_ld ?_; refine s_fA ?_; refine s_ld ?_; refine s_cv ?_; refine s_mv ?_; refine s_rm ?_; refine s_fA ?_; refine s_ld ?_
          (first | refine s_qu ?_ | refine s_q8 ?_); refine s_cv ?_; refine s_rm ?_; refine s_ad ?_
          refine wpi_callF rfl (ct_put (l := []) (by decide)) (by repeat (first | exact HLe.splitNil | (apply HLe.splitCons; focus (repeat (first | exact Take.head | apply Take.tail))))) ?_
          rintro v92 G92 H92 le92 ⟨rfl, rfl⟩
          try simp only [List.nil_append, List.cons_append]
          refine WpI.fact (fun S F p => slA_form .head p) fun f92 => ?_
          refine s_fA ?_; refine s_s1 ?_; refine wpi_nil ?_
          refine ⟨rfl, v92, trivial, ?_, ?_⟩
          · repeat (first | exact SubE.nil | refine SubE.cons rfl ?_)
          · repeat (first | exact HLe.nil | (apply HLe.take; focus (repeat (first | exact Take.head | apply Take.tail))))
        rintro iv -
        refine wp_joinX (α := AV) (fun _ => mkE b9 b8 b1 b2 b3 i (np d)) (fun iw => mkH b9 b8 b1 b2 b3 i X ttv cc pv tv (.slc b o d.acts.length cap) iw .nils .nils ((X.d : Int) % 5) (mkIns (np d) X) ([]) ([])) (fun _ => True) ?_ ?_
        · repeat refine wp_seq ?_
          refine wp_ops ?_
          refine s_fA ?_; refine s_ld ?_; refine s_rm ?_; refine s_ib ?_; refine wpi_nil ?_
          repeat refine wp_seq ?_
          refine wp_cond rfl (fun h1 => ?_) (fun h1 => ?_)
          · refine wp_ops ?_
            refine s_fA ?_; refine s_ld ?_; refine s_fA ?_; refine s_ld ?_; (first | refine s_qu ?_ | refine s_q8 ?_); refine s_cv ?_; refine s_mv ?_; refine s_rm ?_
            refine wpi_callF rfl (ct_put (l := mkIns1 (np d) X) (Nat.lt_of_le_of_lt putArc_len (by decide))) (by repeat (first | exact HLe.splitNil | (apply HLe.splitCons; focus (repeat (first | exact Take.head | apply Take.tail))))) ?_
            rintro v106 G106 H106 le106 ⟨rfl, rfl⟩
            try simp only [List.nil_append, List.cons_append]
            refine WpI.fact (fun S F p => slA_form .head p) fun f106 => ?_
            refine s_fA ?_; refine s_s1 ?_; refine wpi_nil ?_
            have hcd : (X.j : Int) % 3 = 0 := by simpa using h1
            refine ⟨rfl, v106, trivial, ?_, ?_⟩
            · repeat (first | exact SubE.nil | refine SubE.cons rfl ?_)
            · rw [mkIns, if_pos hcd]; repeat (first | exact HLe.nil | (apply HLe.take; focus (repeat (first | exact Take.head | apply Take.tail))))
          · repeat refine wp_seq ?_
            refine wp_skip ?_
            have hcd : ¬ ((X.j : Int) % 3 = 0) := by simpa using h1
            refine ⟨rfl, iv, trivial, ?_, ?_⟩
            · repeat (first | exact SubE.nil | refine SubE.cons rfl ?_)
            · rw [mkIns, if_neg hcd]; repeat (first | exact HLe.nil | (apply HLe.take; focus (repeat (first | exact Take.head | apply Take.tail))))
        rintro iw -
        refine wp_joinX (α := AV) (fun _ => mkE b9 b8 b1 b2 b3 i (np d)) (fun nv => mkH b9 b8 b1 b2 b3 i X ttv cc pv tv (.slc b o d.acts.length cap) iw nv .nils ((X.d : Int) % 5) (mkIns (np d) X) (mkNots (np d) X) ([])) (fun _ => True) ?_ ?_
        · repeat refine wp_seq ?_
          refine wp_ops ?_
          refine s_fA ?_; refine s_ld ?_; refine s_rm ?_; refine s_ib ?_; refine wpi_nil ?_
          repeat refine wp_seq ?_
          refine wp_cond rfl (fun h1 => ?_) (fun h1 => ?_)
          · refine wp_ops ?_
            refine s_fA ?_; refine s_ld ?_; refine s_fA ?_; refine s_ld ?_; (first | refine s_qu ?_ | refine s_q8 ?_); refine s_cv ?_; refine s_mv ?_; refine s_rm ?_; refine s_fA ?_
            refine s_ld ?_; (first | refine s_qu ?_ | refine s_q8 ?_); refine s_cv ?_; refine s_ad ?_
            refine wpi_callF rfl (ct_put (l := []) (by decide)) (by repeat (first | exact HLe.splitNil | (apply HLe.splitCons; focus (repeat (first | exact Take.head | apply Take.tail))))) ?_
            rintro v125 G125 H125 le125 ⟨rfl, rfl⟩
            try simp only [List.nil_append, List.cons_append]
            refine WpI.fact (fun S F p => slA_form .head p) fun f125 => ?_
            refine s_fA ?_; refine s_s1 ?_; refine wpi_nil ?_
            have hcd : (X.n : Int) % 4 = 0 := by simpa using h1
            refine ⟨rfl, v125, trivial, ?_, ?_⟩
            · repeat (first | exact SubE.nil | refine SubE.cons rfl ?_)
            · rw [mkNots, if_pos hcd]; repeat (first | exact HLe.nil | (apply HLe.take; focus (repeat (first | exact Take.head | apply Take.tail))))
          · repeat refine wp_seq ?_
            refine wp_skip ?_
            have hcd : ¬ ((X.n : Int) % 4 = 0) := by simpa using h1
            refine ⟨rfl, .nils, trivial, ?_, ?_⟩
            · repeat (first | exact SubE.nil | refine SubE.cons rfl ?_)
            · rw [mkNots, if_neg hcd]; repeat (first | exact HLe.nil | (apply HLe.take; focus (repeat (first | exact Take.head | apply Take.tail))))
        rintro nv -
        refine wp_joinX (α := AV) (fun _ => mkE b9 b8 b1 b2 b3 i (np d)) (fun ov => mkH b9 b8 b1 b2 b3 i X ttv cc pv tv (.slc b o d.acts.length cap) iw nv ov ((X.d : Int) % 5) (mkIns (np d) X) (mkNots (np d) X) (mkOuts1 (np d) X)) (fun _ => True) ?_ ?_
        · repeat refine wp_seq ?_
          refine wp_ops ?_
          refine s_fA ?_; refine s_ld ?_; refine s_rm ?_; refine s_ib ?_; refine wpi_nil ?_
          repeat refine wp_seq ?_
          refine wp_cond rfl (fun h1 => ?_) (fun h1 => ?_)
          · refine wp_ops ?_
            refine s_fA ?_; refine s_ld ?_; refine s_fA ?_; refine s_ld ?_; (first | refine s_qu ?_ | refine s_q8 ?_); refine s_cv ?_; refine s_mv ?_; refine s_rm ?_; refine s_fA ?_
            refine s_ld ?_; (first | refine s_qu ?_ | refine s_q8 ?_); refine s_cv ?_; refine s_ad ?_
            refine wpi_callF rfl (ct_put (l := []) (by decide)) (by repeat (first | exact HLe.splitNil | (apply HLe.splitCons; focus (repeat (first | exact Take.head | apply Take.tail))))) ?_
            rintro v144 G144 H144 le144 ⟨rfl, rfl⟩
            try simp only [List.nil_append, List.cons_append]
            refine WpI.fact (fun S F p => slA_form .head p) fun f144 => ?_
            refine s_fA ?_; refine s_s1 ?_; refine wpi_nil ?_
            have hcd : (X.o : Int) % 5 > 0 := by simpa using h1
            refine ⟨rfl, v144, trivial, ?_, ?_⟩
            · repeat (first | exact SubE.nil | refine SubE.cons rfl ?_)
            · rw [mkOuts1, if_pos hcd]; repeat (first | exact HLe.nil | (apply HLe.take; focus (repeat (first | exact Take.head | apply Take.tail))))
          · repeat refine wp_seq ?_
            refine wp_skip ?_
            have hcd : ¬ ((X.o : Int) % 5 > 0) := by simpa using h1
            refine ⟨rfl, .nils, trivial, ?_, ?_⟩
            · repeat (first | exact SubE.nil | refine SubE.cons rfl ?_)
            · rw [mkOuts1, if_neg hcd]; repeat (first | exact HLe.nil | (apply HLe.take; focus (repeat (first | exact Take.head | apply Take.tail))))
        rintro ov -
        refine wp_joinX (α := AV) (fun _ => mkE b9 b8 b1 b2 b3 i (np d)) (fun ow => mkH b9 b8 b1 b2 b3 i X ttv cc pv tv (.slc b o d.acts.length cap) iw nv ow ((X.d : Int) % 5) (mkIns (np d) X) (mkNots (np d) X) (mkOuts (np d) X)) (fun _ => True) ?_ ?_
        · repeat refine wp_seq ?_
          refine wp_ops ?_
          refine s_fA ?_; refine s_ld ?_; refine s_rm ?_; refine s_ib ?_; refine wpi_nil ?_
          repeat refine wp_seq ?_
          refine wp_cond rfl (fun h1 => ?_) (fun h1 => ?_)
          · refine wp_ops ?_
            refine s_fA ?_; refine s_ld ?_; refine s_fA ?_; refine s_ld ?_; (first | refine s_qu ?_ | refine s_q8 ?_); refine s_cv ?_; refine s_mv ?_; refine s_rm ?_
            refine wpi_callF rfl (ct_put (l := mkOuts1 (np d) X) (mkOuts1_len)) (by repeat (first | exact HLe.splitNil | (apply HLe.splitCons; focus (repeat (first | exact Take.head | apply Take.tail))))) ?_
            rintro v158 G158 H158 le158 ⟨rfl, rfl⟩
            try simp only [List.nil_append, List.cons_append]
            refine WpI.fact (fun S F p => slA_form .head p) fun f158 => ?_
            refine s_fA ?_; refine s_s1 ?_; refine wpi_nil ?_
            have hcd : (X.q : Int) % 3 > 0 := by simpa using h1
            refine ⟨rfl, v158, trivial, ?_, ?_⟩
            · repeat (first | exact SubE.nil | refine SubE.cons rfl ?_)
            · rw [mkOuts, if_pos hcd]; repeat (first | exact HLe.nil | (apply HLe.take; focus (repeat (first | exact Take.head | apply Take.tail))))
          · repeat refine wp_seq ?_
            refine wp_skip ?_
            have hcd : ¬ ((X.q : Int) % 3 > 0) := by simpa using h1
            refine ⟨rfl, ov, trivial, ?_, ?_⟩
            · repeat (first | exact SubE.nil | refine SubE.cons rfl ?_)
            · rw [mkOuts, if_neg hcd]; repeat (first | exact HLe.nil | (apply HLe.take; focus (repeat (first | exact Take.head | apply Take.tail))))
        rintro ow -
        refine wp_join (mkE b9 b8 b1 b2 b3 i (np d)) (mkH b9 b8 b1 b2 b3 i X ttv cc pv tv (.slc b o d.acts.length cap) iw nv ow (mkDelay X) (mkIns (np d) X) (mkNots (np d) X) (mkOuts (np d) X)) ?_ ?_
        · refine wp_seq ?_
          refine wp_ops ?_
          refine s_fA ?_; refine s_ld ?_; refine s_ib ?_; refine s_mv ?_
          refine wpi_case 163 rfl (fun h3 => ?_) (fun h3 => ?_)
          · first
              | refine s_gn ?_
              | refine s_gy ?_
                refine s_fA ?_
            first
              | refine s_gn ?_
              | refine s_gy ?_
                refine s_ld ?_
            first
              | refine s_gn ?_
              | refine s_gy ?_
                refine s_ib ?_
            (first | refine s_pt ?_ | refine s_pf ?_ | refine s_pb ?_); refine wpi_nil ?_
            repeat refine wp_seq ?_
            refine wp_cond rfl (fun h1 => ?_) (fun h1 => ?_)
            · repeat refine wp_seq ?_
              refine wp_ops ?_
              refine s_fA ?_; refine s_s1 ?_; refine wpi_nil ?_
              have hcd : (X.d : Int) % 5 = 0 ∧ (X.d : Int) < 128 := ⟨by simpa using h3, by simpa using h1⟩
              refine ⟨rfl, ?_, ?_⟩
              · repeat (first | exact SubE.nil | refine SubE.cons rfl ?_)
              · rw [mkDelay, if_pos hcd]; repeat (first | exact HLe.nil | (apply HLe.take; focus (repeat (first | exact Take.head | apply Take.tail))))
            · repeat refine wp_seq ?_
              refine wp_skip ?_
              have hcd : ¬ ((X.d : Int) % 5 = 0 ∧ (X.d : Int) < 128) := fun hh => (of_decide_eq_false h1) hh.2
              refine ⟨rfl, ?_, ?_⟩
              · repeat (first | exact SubE.nil | refine SubE.cons rfl ?_)
              · rw [mkDelay, if_neg hcd]; repeat (first | exact HLe.nil | (apply HLe.take; focus (repeat (first | exact Take.head | apply Take.tail))))
          · first
              | refine s_gn ?_
              | refine s_gy ?_
                refine s_fA ?_
            first
              | refine s_gn ?_
              | refine s_gy ?_
                refine s_ld ?_
            first
              | refine s_gn ?_
              | refine s_gy ?_
                refine s_ib ?_
            (first | refine s_pt ?_ | refine s_pf ?_ | refine s_pb ?_); refine wpi_nil ?_
            repeat refine wp_seq ?_
            refine wp_cond rfl (fun h1 => ?_) (fun h1 => ?_)
            · cases h1
            · repeat refine wp_seq ?_
              refine wp_skip ?_
              have hcd : ¬ ((X.d : Int) % 5 = 0 ∧ (X.d : Int) < 128) := fun hh => by rw [hh.1] at h3; cases h3
              refine ⟨rfl, ?_, ?_⟩
              · repeat (first | exact SubE.nil | refine SubE.cons rfl ?_)
              · rw [mkDelay, if_neg hcd]; repeat (first | exact HLe.nil | (apply HLe.take; focus (repeat (first | exact Take.head | apply Take.tail))))
        refine Wp.freezeS (by repeat (first | exact Take.head | apply Take.tail)) ?_
        intro G3 le3 hi3
        refine Wp.freezeS (by repeat (first | exact Take.head | apply Take.tail)) ?_
        intro G4 le4 hn4
        refine Wp.freezeS (by repeat (first | exact Take.head | apply Take.tail)) ?_
        intro G5 le5 ho5
        have hcl := flatten_len6 hc6 hcc
        repeat refine wp_seq ?_
        refine wp_ops ?_
        refine s_fA ?_; refine s_ld ?_; refine s_ld ?_; refine s_bs fun b172 => ?_; refine s_ap fun v173 f173 => ?_; refine s_fA ?_; refine s_s1 ?_; refine wpi_nil ?_
        repeat refine wp_seq ?_
        refine wp_ops ?_
        refine s_mv ?_; refine s_ad ?_; refine s_mv ?_; refine wpi_nil ?_
        have hT : transC (Gr G5) (mkTrans (np d) i X) [.str [116, 48 + i, 46, 120], .int .i64 (mkDelay X), .int .i64 ((X.p : Int) % 3), iw, nv, ow] :=
          ⟨iw, nv, ow, rfl, SlL.of (hi3.mono (Gr.le (le4.trans le5))) (fun _ _ => rfl) (fun _ => rfl), SlL.of (hn4.mono (Gr.le le5)) (fun _ _ => rfl) (fun _ => rfl), SlL.of ho5 (fun _ _ => rfl) (fun _ => rfl)⟩
        refine ⟨hlt9, (v173, cc ++ [[.str [116, 48 + i, 46, 120], .int .i64 (mkDelay X), .int .i64 ((X.p : Int) % 3), iw, nv, ow]]), ⟨?_, ?_⟩, ?_, ?_⟩
        · rw [mkTs_succ, hdx]
          exact (hcc.mono fun _ _ h => transC.mono (Gr.le (le3.trans (le4.trans le5))) h).append (.cons hT .nil)
        · intro c hc
          rcases List.mem_append.1 hc with h | h
          · exact hc6 _ h
          · simp at h; subst h; rfl
        · repeat (first | exact SubE.nil | refine SubE.cons rfl ?_)
        · simp only [List.flatten_append]; repeat (first | exact HLe.nil | (apply HLe.take; focus (repeat (first | exact Take.head | apply Take.tail))))
      · have hi : i = min d.acts.length 9 := by
          have : ¬ (i : Int) < 9 := of_decide_eq_false h1
          omega
        subst hi
        repeat refine wp_seq ?_
        refine wp_exit ?_
        refine Wp.freezeS (by repeat (first | exact Take.head | apply Take.tail)) ?_
        intro G3 le3 ht3
        repeat refine wp_seq ?_
        refine wp_ops ?_
        refine s_ld ?_; refine s_st ?_; refine wpi_nil ?_
        repeat refine wp_seq ?_
        refine wp_ret ?_
        refine ⟨_, .cell rfl (.h (by repeat (first | exact Take.head | apply Take.tail))) rfl .nil, [], (by repeat (first | exact HLe.nil | (apply HLe.take; focus (repeat (first | exact Take.head | apply Take.tail))))), ?_, rfl⟩
        refine ⟨pv, ttv, rfl, ?_, ?_⟩
        · exact hpl2.mono (Gr.le le3) (fun _ _ h => h)
        · exact ⟨cc, hcc.mono fun _ _ h => transC.mono (Gr.le le3) h, hc6, by rw [show (make d).trans = mkTs d (min d.acts.length 9) from rfl, mkTs_len]; exact ht3⟩
    · first
        | refine s_gn ?_
        | refine s_gy ?_
          refine s_mv ?_
      first
        | refine s_gn ?_
        | refine s_gy ?_
          refine s_ib ?_
      (first | refine s_pt ?_ | refine s_pf ?_ | refine s_pb ?_); refine wpi_nil ?_
      repeat refine wp_seq ?_
      refine wp_cond rfl (fun h1 => ?_) (fun h1 => ?_)
      · cases h1
      · have hi : i = min d.acts.length 9 := by
          have : ¬ (i : Int) < d.acts.length := of_decide_eq_false h2
          omega
        subst hi
        repeat refine wp_seq ?_
        refine wp_exit ?_
        refine Wp.freezeS (by repeat (first | exact Take.head | apply Take.tail)) ?_
        intro G3 le3 ht3
        repeat refine wp_seq ?_
        refine wp_ops ?_
        refine s_ld ?_; refine s_st ?_; refine wpi_nil ?_
        repeat refine wp_seq ?_
        refine wp_ret ?_
        refine ⟨_, .cell rfl (.h (by repeat (first | exact Take.head | apply Take.tail))) rfl .nil, [], (by repeat (first | exact HLe.nil | (apply HLe.take; focus (repeat (first | exact Take.head | apply Take.tail))))), ?_, rfl⟩
        refine ⟨pv, ttv, rfl, ?_, ?_⟩
        · exact hpl2.mono (Gr.le le3) (fun _ _ h => h)
        · exact ⟨cc, hcc.mono fun _ _ h => transC.mono (Gr.le le3) h, hc6, by rw [show (make d).trans = mkTs d (min d.acts.length 9) from rfl, mkTs_len]; exact ht3⟩

