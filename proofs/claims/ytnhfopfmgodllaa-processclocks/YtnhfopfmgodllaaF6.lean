/-
  A part of the proof: contracts of functions of the program, over the abstract machine.
-/
import Derived.Test.YtnhfopfmgodllaaF5
noncomputable section
namespace Go.Sl
open Go Go.Ab Cd
set_option linter.unusedVariables false
set_option linter.unusedSimpArgs false
set_option maxRecDepth 10000

def splitK (c : Nat) (bys : List Nat) (i : Nat) : Nat := if i < bys.length then bys.getD i 0 % c else i % c
def assign (P k : Nat) (s : List Nat × List Nat) (x : Nat) : List Nat × List Nat := if x < P then (s.1.set x k, s.2) else (s.1, s.2.set (x - P) k)
def assigns (P k : Nat) (s : List Nat × List Nat) (g : List Nat) : List Nat × List Nat := g.foldl (assign P k) s
def splitTo (P c : Nat) (bys : List Nat) (gs : List (List Nat)) (s : List Nat × List Nat) (k : Nat) : List Nat × List Nat := (List.range k).foldl (fun s i => assigns P (splitK c bys i) s (gs.getD i [])) s
def splitN (x : Nat) : Nat := 1 + x % 5
def split (n : Net) (x : Nat) (bys : List Nat) : List Nat × List Nat := splitTo n.places.length (splitN x) bys (units n) (List.replicate n.places.length 0, List.replicate n.trans.length 0) (units n).length
theorem assign_len (P k : Nat) (s : List Nat × List Nat) (x : Nat) : (assign P k s x).1.length = s.1.length ∧ (assign P k s x).2.length = s.2.length := by unfold assign; split <;> simp
theorem assigns_len (P k : Nat) : ∀ (g : List Nat) (s : List Nat × List Nat), (assigns P k s g).1.length = s.1.length ∧ (assigns P k s g).2.length = s.2.length
  | [], s => ⟨rfl, rfl⟩
  | x :: g, s => by
    have h := assigns_len P k g (assign P k s x)
    have h2 := assign_len P k s x
    exact ⟨h.1.trans h2.1, h.2.trans h2.2⟩
theorem splitTo_succ (P c : Nat) (bys : List Nat) (gs : List (List Nat)) (s : List Nat × List Nat) (k : Nat) : splitTo P c bys gs s (k + 1) = assigns P (splitK c bys k) (splitTo P c bys gs s k) (gs.getD k []) := by
  simp only [splitTo, List.range_succ, List.foldl_append, List.foldl_cons, List.foldl_nil]
theorem splitTo_len (P c : Nat) (bys : List Nat) (gs : List (List Nat)) (s : List Nat × List Nat) : ∀ k, (splitTo P c bys gs s k).1.length = s.1.length ∧ (splitTo P c bys gs s k).2.length = s.2.length
  | 0 => ⟨rfl, rfl⟩
  | k + 1 => by
    have h := splitTo_len P c bys gs s k
    have h2 := assigns_len P (splitK c bys k) (gs.getD k []) (splitTo P c bys gs s k)
    rw [splitTo_succ]; exact ⟨h2.1.trans h.1, h2.2.trans h.2⟩
theorem assigns_take (P k : Nat) (s : List Nat × List Nat) (g : List Nat) {j : Nat} (hj : j < g.length) : assigns P k s (g.take (j + 1)) = assign P k (assigns P k s (g.take j)) g[j] := by
  unfold assigns; rw [List.take_succ_eq_append_getElem hj, List.foldl_append]; rfl
theorem groups_in {n : Nat} {ps : List (Nat × Nat)} {g : List Nat} (h : g ∈ groups n ps) : (∀ x ∈ g, x < n) ∧ g.length ≤ n := by
  simp only [groups, groupsTo, List.mem_filter, List.mem_map] at h
  obtain ⟨⟨i, _, rfl⟩, _⟩ := h
  refine ⟨fun x hx => ?_, members_len _ _ _ _⟩
  simp only [members, List.mem_filter, List.mem_range] at hx; exact hx.1
theorem natR {D : RD} {v : AV} {l : List Nat} (h : SlL D 1 natC v l) : SlL D 1 intC v (l.map fun (n : Nat) => (n : Int)) := by
  obtain ⟨cc, h1, h2, h3⟩ := h
  refine ⟨cc, ?_, h2, by rw [List.length_map]; exact h3⟩
  clear h2 h3
  induction h1 with
  | nil => exact .nil
  | cons h t ih => exact .cons h ih

theorem natF_map (l : List Nat) : l.flatMap natF = l.map intN := by induction l with
  | nil => rfl
  | cons a l ih => simp [natF, ih]
theorem putG_same (G : GB) (b : Nat) (o : AObj) : putG G b o b = some o := by simp [putG]
theorem natBlk {G : GB} {b : Nat} {l : List Nat} {n : Nat} {cap : Option Nat} (h : G b = some (.cells none false (l.map intN))) (hl : l.length = n) : SlL (Gr G) 1 natC (.slc b 0 n cap) l := by
  subst hl
  refine SlL.of (f := natF) ⟨by rw [natF_len, Nat.mul_one], .inr ⟨b, 0, cap, none, false, l.map intN, rfl, h, ?_⟩⟩ (fun _ _ => rfl) (fun _ => rfl)
  rw [natF_map, Nat.mul_one]
  have := slice?_all (l.map intN)
  rwa [List.length_map] at this

theorem ct_Split {G : GB} {nv bv : AV} {n : Net} {x : Nat} {bys : List Nat} (hN : netR (Gr G) nv n) (hs : n.small) (hB : SlL (Gr G) 1 byteC bv bys) (hx : x < 256) (hb : ∀ b ∈ bys, b < 256) :
    Ct prog n_ref14_Split [nv, .int .u8 (x : Int), bv] G [] (fun v G' H' => ∃ p t, v = .tup [intN (splitN x), p, t] ∧ SlL (Gr G') 1 natC p (split n x bys).1 ∧ SlL (Gr G') 1 natC t (split n x bys).2 ∧ H' = []) := by
  obtain ⟨pv, tv, rfl, hpl, htl⟩ := hN
  have hN : netR (Gr G) (.agg [pv, tv]) n := ⟨pv, tv, rfl, hpl, htl⟩
  have hpll := hpl.len
  have htll := htl.len
  have hs1 := hs.places
  have hs2 := hs.trans
  refine ct_body (fn := f_ref14_Split) rfl rfl rfl ?_
  repeat refine wp_seq ?_
  refine wp_ops ?_
  refine s_bx fun b3 => ?_; refine s_mv ?_; refine s_mv ?_; refine s_mv ?_; refine wpi_nil ?_
  repeat refine wp_seq ?_
  refine wp_ops ?_
  refine s_mv ?_; refine s_rm ?_; refine s_cv ?_; refine s_ad ?_; refine s_mv ?_; refine wpi_nil ?_
  repeat refine wp_seq ?_
  refine wp_ops ?_
  refine s_fA ?_; refine s_ld ?_; refine s_ln ?_; refine s_mk fun b24 => ?_; refine s_mv ?_; refine wpi_nil ?_
  repeat refine wp_seq ?_
  refine wp_ops ?_
  refine s_fA ?_; refine s_ld ?_; refine s_ln ?_; refine s_mk fun b28 => ?_; refine s_mv ?_; refine wpi_nil ?_
  have hr0 : repl [AV.int .i64 0] n.places.length = (List.replicate n.places.length 0).map intN := repl_one (f := intN) (x := 0) _
  have hr1 : repl [AV.int .i64 0] n.trans.length = (List.replicate n.trans.length 0).map intN := repl_one (f := intN) (x := 0) _
  rw [hr0, hr1]
  repeat refine wp_seq ?_
  refine wp_ops ?_
  refine s_ld ?_
  refine wpi_callF rfl (ct_Units hN hs) (by repeat (first | exact HLe.splitNil | (apply HLe.splitCons; focus (repeat (first | exact Take.head | apply Take.tail))))) ?_
  rintro v30 G30 H30 le30 ⟨hg, rfl⟩
  try simp only [List.nil_append, List.cons_append]
  refine s_mv ?_; refine wpi_nil ?_
  have hgl : (units n).length ≤ n.places.length + n.trans.length := groupsTo_len _ _ _
  have hgi : ∀ g ∈ units n, (∀ x ∈ g, x < n.places.length + n.trans.length) ∧ g.length ≤ n.places.length + n.trans.length := fun g h => groups_in h
  have hB' := hB.mono (Gr.le le30) (fun _ _ h => h)
  have hc : 1 ≤ splitN x ∧ splitN x ≤ 5 := by unfold splitN; omega
  have hce : 1 + (x : Int) % 5 = ((splitN x : Nat) : Int) := by unfold splitN; omega
  rw [hce]
  have hsl := splitTo_len n.places.length (splitN x) bys (units n) (List.replicate n.places.length 0, List.replicate n.trans.length 0)
  simp only [List.length_replicate] at hsl
  unfold split
  generalize units n = U at *
  repeat refine wp_seq ?_
  refine wp_ops ?_
  refine s_mv ?_; refine wpi_nil ?_
  repeat refine wp_seq ?_
  refine wp_block ?_
  refine wp_loopX (α := Unit) U.length (fun i _ => [(13, intN i), (12, v30), (11, .slc b28 0 n.trans.length (some n.trans.length)), (10, .slc b24 0 n.places.length (some n.places.length)), (9, intN (splitN x)), (2, bv)])
    (fun i _ => [pt b24 (.cells none false ((splitTo n.places.length (splitN x) bys U (List.replicate n.places.length 0, List.replicate n.trans.length 0) i).1.map intN)), pt b28 (.cells none false ((splitTo n.places.length (splitN x) bys U (List.replicate n.places.length 0, List.replicate n.trans.length 0) i).2.map intN))])
    (fun _ _ => True) () trivial (by repeat (first | exact SubE.nil | refine SubE.cons rfl ?_)) (by repeat (first | exact HLe.nil | (apply HLe.take; focus (repeat (first | exact Take.head | apply Take.tail))))) ?_
  rintro i - hil -
  repeat refine wp_seq ?_
  refine wp_ops ?_
  refine s_mv ?_; refine s_mv ?_; refine s_ln ?_; refine s_ib ?_; refine wpi_nil ?_
  repeat refine wp_seq ?_
  refine wp_cond rfl (fun h1 => ?_) (fun h1 => ?_)
  · have hlt : i < U.length := by simpa using h1
    clear h1
    obtain ⟨hl1, hl2⟩ := hsl i
    have hsu := splitTo_succ n.places.length (splitN x) bys U (List.replicate n.places.length 0, List.replicate n.trans.length 0) i
    obtain ⟨q1, q2⟩ := hgi _ (List.getElem_mem hlt)
    have hgd : U.getD i [] = U[i] := getD_lt hlt
    obtain ⟨b, o, cap, op, ro, c, y, rfl, k2, ⟨rv, rfl, k3⟩, k4, k5, k6⟩ := hg.at hlt
    have k7 := k6 0 _ rfl
    have k3l := k3.len
    generalize splitTo n.places.length (splitN x) bys U (List.replicate n.places.length 0, List.replicate n.trans.length 0) i = T at *
    rw [hsu, hgd]
    generalize U[i] = g at *
    clear k6 k5 k4
    repeat refine wp_seq ?_
    refine wp_skip ?_
    refine wp_seq ?_
    repeat refine wp_seq ?_
    refine wp_block ?_
    repeat refine wp_seq ?_
    refine wp_ops ?_
    refine s_mv ?_; refine s_mv ?_; refine s_rm ?_; refine s_mv ?_; refine wpi_nil ?_
    refine wp_join [(14, intN (splitK (splitN x) bys i)), (13, intN i), (12, .slc b o U.length cap), (11, .slc b28 0 n.trans.length (some n.trans.length)), (10, .slc b24 0 n.places.length (some n.places.length)), (9, intN (splitN x)), (2, bv)]
      [pt b24 (.cells none false (T.1.map intN)), pt b28 (.cells none false (T.2.map intN))] ?_ ?_
    · have hBl := hB'.len
      repeat refine wp_seq ?_
      refine wp_ops ?_
      refine s_mv ?_; refine s_mv ?_; refine s_ln ?_; refine s_ib ?_; refine wpi_nil ?_
      repeat refine wp_seq ?_
      refine wp_cond rfl (fun h1 => ?_) (fun h1 => ?_)
      · have hib : i < bys.length := by simpa using h1
        have hv : bys[i] < 256 := hb _ (List.getElem_mem hib)
        obtain ⟨b', o', cap', op', ro', c', y', rfl, j2, rfl, j4, j5, j6⟩ := hB'.at hib
        have j7 := j6 0 _ rfl
        repeat refine wp_seq ?_
        refine wp_ops ?_
        refine s_mv ?_; refine s_mv ?_; (first | refine s_ix ?_ | refine s_ixi ?_); refine s_ld ?_; refine s_cv ?_; refine s_mv ?_; refine s_rm ?_; refine s_mv ?_; refine wpi_nil ?_
        refine ⟨rfl, ?_, by repeat (first | exact HLe.refl | apply HLe.cons | apply HLe.drop)⟩
        have e : intN (splitK (splitN x) bys i) = .int .i64 ((bys[i] : Int) % (splitN x : Int)) := by
          rw [splitK, if_pos hib, getD_lt hib]; rfl
        rw [e]; repeat (first | exact SubE.nil | refine SubE.cons rfl ?_)
      · have hib : ¬ i < bys.length := by simpa using h1
        repeat refine wp_seq ?_
        refine wp_skip ?_
        refine ⟨rfl, ?_, by repeat (first | exact HLe.refl | apply HLe.cons | apply HLe.drop)⟩
        have e : intN (splitK (splitN x) bys i) = .int .i64 ((i : Int) % (splitN x : Int)) := by
          rw [splitK, if_neg hib]; rfl
        rw [e]; repeat (first | exact SubE.nil | refine SubE.cons rfl ?_)
    generalize splitK (splitN x) bys i = kk
    repeat refine wp_seq ?_
    refine wp_ops ?_
    refine s_mv ?_; refine wpi_nil ?_
    repeat refine wp_seq ?_
    refine wp_block ?_
    refine wp_loopX (α := Unit) g.length (fun j _ => [(15, intN j), (14, intN kk), (13, intN i), (12, .slc b o U.length cap), (11, .slc b28 0 n.trans.length (some n.trans.length)), (10, .slc b24 0 n.places.length (some n.places.length)), (9, intN (splitN x)), (2, bv)])
      (fun j _ => [pt b24 (.cells none false ((assigns n.places.length kk T (g.take j)).1.map intN)), pt b28 (.cells none false ((assigns n.places.length kk T (g.take j)).2.map intN))])
      (fun _ _ => True) () trivial (by repeat (first | exact SubE.nil | refine SubE.cons rfl ?_)) (by repeat (first | exact HLe.refl | apply HLe.cons | apply HLe.drop)) ?_
    rintro j - hjl -
    repeat refine wp_seq ?_
    refine wp_ops ?_
    refine s_mv ?_; refine s_mv ?_; refine s_mv ?_; (first | refine s_ix ?_ | refine s_ixi ?_); refine s_ld ?_; refine s_ln ?_; refine s_ib ?_; refine wpi_nil ?_
    repeat refine wp_seq ?_
    refine wp_cond rfl (fun h1 => ?_) (fun h1 => ?_)
    · have hjt : j < g.length := by simpa using h1
      clear h1
      obtain ⟨b', o', cap', op', ro', c', y', rfl, j2, rfl, j4, j5, j6⟩ := k3.at hjt
      have j7 := j6 0 _ rfl
      have hxb : g[j] < n.places.length + n.trans.length := q1 _ (List.getElem_mem hjt)
      have hat := assigns_take n.places.length kk T g hjt
      obtain ⟨m1, m2⟩ := assigns_len n.places.length kk (g.take j) T
      rw [hl1] at m1
      rw [hl2] at m2
      generalize assigns n.places.length kk T (g.take j) = S at *
      generalize g[j] = e at *
      repeat refine wp_seq ?_
      refine wp_skip ?_
      refine wp_seq ?_
      repeat refine wp_seq ?_
      refine wp_block ?_
      repeat refine wp_seq ?_
      refine wp_ops ?_
      refine s_mv ?_; refine s_mv ?_; (first | refine s_ix ?_ | refine s_ixi ?_); refine s_ld ?_; refine s_mv ?_; (first | refine s_ix ?_ | refine s_ixi ?_); refine s_ld ?_; refine s_mv ?_
      refine wpi_nil ?_
      repeat refine wp_seq ?_
      refine wp_ops ?_
      refine s_mv ?_; refine s_mv ?_; refine s_ln ?_; refine s_ib ?_; refine wpi_nil ?_
      repeat refine wp_seq ?_
      refine wp_cond rfl (fun h1 => ?_) (fun h1 => ?_)
      · have hep : e < n.places.length := by simpa using h1
        have hst : splice (S.1.map intN) (0 + e * 1) [intN kk] = some ((S.1.set e kk).map intN) := splice_set1 (f := intN) (by omega)
        repeat refine wp_seq ?_
        refine wp_ops ?_
        refine s_mv ?_; refine s_mv ?_; refine s_mv ?_; (first | refine s_ix ?_ | refine s_ixi ?_); refine s_s1 ?_; refine wpi_nil ?_
        repeat refine wp_seq ?_
        refine wp_ops ?_
        refine s_mv ?_; refine s_ad ?_; refine s_mv ?_; refine wpi_nil ?_
        refine ⟨rfl, hjt, (), trivial, by repeat (first | exact SubE.nil | refine SubE.cons rfl ?_), ?_⟩
        rw [hat, assign, if_pos hep]; repeat (first | exact HLe.refl | apply HLe.cons | apply HLe.drop)
      · have hep : ¬ e < n.places.length := by simpa using h1
        have hst : splice (S.2.map intN) (0 + ((e : Int) - (n.places.length : Int)).toNat * 1) [intN kk] = some ((S.2.set (e - n.places.length) kk).map intN) := by
          rw [show ((e : Int) - (n.places.length : Int)).toNat = e - n.places.length by omega]
          exact splice_set1 (f := intN) (by omega)
        repeat refine wp_seq ?_
        refine wp_ops ?_
        refine s_mv ?_; refine s_mv ?_; refine s_mv ?_; refine s_ln ?_; refine s_sb ?_; refine s_mv ?_; (first | refine s_ix ?_ | refine s_ixi ?_); refine s_s1 ?_; refine wpi_nil ?_
        repeat refine wp_seq ?_
        refine wp_ops ?_
        refine s_mv ?_; refine s_ad ?_; refine s_mv ?_; refine wpi_nil ?_
        refine ⟨rfl, hjt, (), trivial, by repeat (first | exact SubE.nil | refine SubE.cons rfl ?_), ?_⟩
        rw [hat, assign, if_neg hep]; repeat (first | exact HLe.refl | apply HLe.cons | apply HLe.drop)
    · have hj : j = g.length := by
        have : ¬ (j : Int) < g.length := of_decide_eq_false h1
        omega
      subst hj
      repeat refine wp_seq ?_
      refine wp_exit ?_
      repeat refine wp_seq ?_
      refine wp_ops ?_
      refine s_mv ?_; refine s_ad ?_; refine s_mv ?_; refine wpi_nil ?_
      refine ⟨rfl, hlt, (), trivial, by repeat (first | exact SubE.nil | refine SubE.cons rfl ?_), ?_⟩
      rw [List.take_length]; repeat (first | exact HLe.refl | apply HLe.cons | apply HLe.drop)
  · have hi : i = U.length := by
      have : ¬ (i : Int) < U.length := of_decide_eq_false h1
      omega
    subst hi
    obtain ⟨hl1, hl2⟩ := hsl U.length
    repeat refine wp_seq ?_
    refine wp_exit ?_
    refine Wp.freeze (by repeat (first | exact Take.head | apply Take.tail)) fun le2 => ?_
    refine Wp.freeze (by repeat (first | exact Take.head | apply Take.tail)) fun le3 => ?_
    repeat refine wp_seq ?_
    refine wp_ops ?_
    refine s_mv ?_; refine s_mv ?_; refine s_mv ?_; refine s_mv ?_; refine s_mv ?_; refine s_mv ?_; refine wpi_nil ?_
    repeat refine wp_seq ?_
    refine wp_ret ?_
    refine ⟨_, .tmp rfl (.tmp rfl (.tmp rfl .nil)), [], by repeat (first | exact HLe.nil | (apply HLe.take; focus (repeat (first | exact Take.head | apply Take.tail)))), _, _, rfl, ?_, ?_, rfl⟩
    · exact natBlk (cap := some n.places.length) (le3 _ _ (putG_same ..)) hl1
    · exact natBlk (cap := some n.trans.length) (putG_same ..) hl2

