/-
  THE OPERATIONS, FIFTH PART: equality, strings, conversions.
-/
import Derived.Test.YtnhfopfmgodllaaAbOpsD
namespace Go.Ab
open Go
set_option linter.unusedSectionVars false
variable [Inhabited Unknowns]
variable {P : Program} {gl : List Nat} {o : Oper}

/-! ### Strings -/
theorem str_len {s : ByteArray} {l : List Nat} (h : s.data.toList.map UInt8.toNat = l) : l.length = s.size := by subst h; rw [List.length_map, Array.length_toList]; rfl
theorem map_inj {a b : List UInt8} : a.map UInt8.toNat = b.map UInt8.toNat ↔ a = b := by
  constructor
  · intro h
    exact List.map_inj_right (fun x y e => UInt8.toNat_inj.1 e) |>.1 h
  · intro h; rw [h]
theorem str_beq {s s' : ByteArray} {l l' : List Nat} (h : s.data.toList.map UInt8.toNat = l) (h' : s'.data.toList.map UInt8.toNat = l') : (s.toList == s'.toList) = (l == l') := by
  rw [ByteArray.toList_eq, ByteArray.toList_eq, Bool.eq_iff_iff, beq_iff_eq, beq_iff_eq, ← h, ← h', map_inj]
theorem str_beq' {s s' : ByteArray} {l l' : List Nat} (h : s.data.toList.map UInt8.toNat = l) (h' : s'.data.toList.map UInt8.toNat = l') : (s == s') = (l == l') := by rw [beq_toListBytes, str_beq h h']
theorem str_less : ∀ (x y : List UInt8), Op.bytesLess x y = ltBytes (x.map UInt8.toNat) (y.map UInt8.toNat)
  | _, [] => by cases ‹List UInt8› <;> rfl
  | [], _ :: _ => rfl
  | a :: x, b :: y => by
    simp only [Op.bytesLess, List.map_cons, ltBytes, str_less x y]
    congr 1
    congr 1
    rw [Bool.eq_iff_iff, beq_iff_eq, beq_iff_eq, UInt8.toNat_inj]

/-! ### Equality -/
theorem eqPlain_append : ∀ (k1 k2 : List Nat) (a b : List AV) (r : Bool), eqPlain (k1 ++ k2) a b = some r → ∃ r1 r2, eqPlain k1 (a.take k1.length) (b.take k1.length) = some r1 ∧ eqPlain k2 (a.drop k1.length) (b.drop k1.length) = some r2 ∧ r = (r1 && r2)
  | [], k2, a, b, r, h => ⟨true, r, by simp [eqPlain], by simpa using h, by simp⟩
  | k :: k1, k2, [], b, r, h => by simp [eqPlain] at h
  | k :: k1, k2, x :: a, [], r, h => by simp [eqPlain] at h
  | k :: k1, k2, x :: a, y :: b, r, h => by
    simp only [List.cons_append, eqPlain] at h
    split at h
    · rename_i hk
      split at h
      · rename_i r0 q h1 h2
        obtain rfl := Option.some.inj h
        obtain ⟨r1, r2, e1, e2, rfl⟩ := eqPlain_append k1 k2 a b q h2
        exact ⟨(r0 && r1), r2, by simp [eqPlain, hk, h1, e1], by simpa using e2, by rw [Bool.and_assoc]⟩
      · cases h
    · cases h
theorem eqPlain_length : ∀ (ks : List Nat) (a b : List AV) (r : Bool), eqPlain ks a b = some r → a.length = ks.length ∧ b.length = ks.length
  | [], a, b, r, h => by cases a <;> cases b <;> simp [eqPlain] at h ⊢
  | k :: ks, [], b, r, h => by simp [eqPlain] at h
  | k :: ks, x :: a, [], r, h => by simp [eqPlain] at h
  | k :: ks, x :: a, y :: b, r, h => by
    simp only [eqPlain] at h
    split at h
    · split at h
      · rename_i r0 q h1 h2
        have := eqPlain_length ks a b q h2
        simp [this.1, this.2]
      · cases h
    · cases h

def plainFs (P : Program) (g : TypeId → Option (List Nat)) : List Field → Nat → Option (List Nat)
  | [], _ => some []
  | f :: fs, off => if f.name ≠ "_" ∧ f.offset = off then match g f.type with
      | some n => if sizeIs P f.type n.length = true then match plainFs P g fs (off + n.length) with
        | some m => some (n ++ m)
        | none => none
        else none
      | none => none
    else none
/-- The kinds of the cells of a type of numbers, bools, strings, and structs of these. -/
def plainN (P : Program) : Nat → TypeId → Option (List Nat)
  | 0, _ => none
  | d + 1, t => match P.underlying t with
    | some .bool => some [0]
    | some (.int _) => some [1]
    | some .string => some [2]
    | some (.struct fs) => if P.stoodInHeld t = true then none else plainFs P (plainN P d) fs.toList 0
    | _ => none

/-- A value of a type, out of its cells. -/
def ofCells (P : Program) (t : TypeId) (l : List Value) : Value := match P.underlying t with
  | some (.struct _) => .agg l.toArray
  | _ => l.headD undef

theorem part_one {w : World} {t : TypeId} {d : TypeDesc} (hu : P.underlying t = some d) (hd : aggD d = false) {off : Nat} {xs : List Value} (h : off + 1 ≤ xs.length) :
    (Go.part t xs.toArray off).run P w = .ok (ofCells P t ((xs.drop off).take 1)) w := by
  have e : ofCells P t ((xs.drop off).take 1) = xs[off] := by
    unfold ofCells
    rw [hu]
    split
    · rename_i e; cases e; cases hd
    · simp [List.head?_take, List.head?_drop, List.getElem?_eq_getElem (show off < xs.length by omega), List.headD_eq_head?_getD]
  rw [e]
  unfold Go.part
  simp only [Sem.run_bind, r_isAgg hu, hd, Result.andThen_ok, Bool.false_eq_true, if_false]
  rw [List.getElem?_toArray, List.getElem?_eq_getElem (by omega)]
  rfl

theorem part_run {w : World} {t : TypeId} {n : List Nat} {off d : Nat} {xs : List Value} (hp : plainN P d t = some n) (hs : sizeIs P t n.length = true) (h : off + n.length ≤ xs.length) :
    (Go.part t xs.toArray off).run P w = .ok (ofCells P t ((xs.drop off).take n.length)) w := by
  cases d with
  | zero => simp [plainN] at hp
  | succ d =>
    simp only [plainN] at hp
    split at hp
    · rename_i hu; obtain rfl := Option.some.inj hp; exact part_one hu rfl h
    · rename_i hu; obtain rfl := Option.some.inj hp; exact part_one hu rfl h
    · rename_i hu; obtain rfl := Option.some.inj hp; exact part_one hu rfl h
    · rename_i hu
      unfold Go.part ofCells
      simp only [Sem.run_bind, r_isAgg hu, aggD, Result.andThen_ok, if_true, hu, sizeIs_run hs, Sem.run_pure]
      congr 2
      simp [Nat.add_sub_cancel_left]
    · cases hp

def KindD (P : Program) : Nat → TypeDesc → Prop
  | 0, d => d = .bool
  | 1, d => ∃ j, d = .int j
  | 2, d => d = .string
  | 3, d => ∃ e n, d = .pointer e ∧ sizeIs P e n = true ∧ n ≠ 0
  | 4, d => ∃ m, d = .interface m
  | 5, d => ∃ e, d = .slice e
  | 6, d => ∃ x y z, d = .func x y z
  | 7, d => ∃ x y, d = .map x y
  | _, _ => False

theorem beq_addr (b o p q : Nat) : ((⟨b, o + p, none⟩ : Addr) == ⟨b, o + q, none⟩) = (p == q) := by
  rw [Bool.eq_iff_iff, beq_iff_eq, beq_iff_eq, Addr.mk.injEq]
  constructor
  · rintro ⟨_, h, _⟩; omega
  · intro h; subst h; exact ⟨rfl, rfl, rfl⟩

set_option maxHeartbeats 1000000 in
theorem eqA_run {μ : Mu} {k : Nat} {a b : AV} {u v : Value} {r : Bool} (h : eqA k a b = some r) (ha : VR μ a u) (hb : VR μ b v) (t : TypeId) (d : TypeDesc) (hu : P.underlying t = some d)
    (hk : KindD P k d) (D : Nat) (w : World) :
    (Op.equalIn (D + 1) t u v).run P w = .ok r w := by
  unfold eqA at h
  unfold Op.equalIn
  simp only [Sem.run_bind, r_underlying hu, Result.andThen_ok]
  split at h <;> (try (cases h; done)) <;> simp only [KindD] at hk
  · obtain rfl := Option.some.inj h; subst hk; cases ha; cases hb; rfl
  · obtain ⟨j, rfl⟩ := hk
    split at h
    · rename_i hjk; subst hjk; obtain rfl := Option.some.inj h; cases ha; cases hb; simp only [if_true, Sem.run_pure]
    · cases h
  · obtain rfl := Option.some.inj h; subst hk; cases ha; cases hb; simp only [Sem.run_pure]; rw [str_beq' ‹_› ‹_›]
  · obtain rfl := Option.some.inj h; obtain ⟨e, n, rfl, _⟩ := hk; cases ha; cases hb; rfl
  · obtain rfl := Option.some.inj h; obtain ⟨e, n, rfl, _⟩ := hk; cases ha; cases hb; rfl
  · obtain rfl := Option.some.inj h; obtain ⟨e, n, rfl, _⟩ := hk; cases ha; cases hb; rfl
  · obtain ⟨e, n, rfl, hs, hn⟩ := hk
    split at h
    · rename_i hab; subst hab
      obtain rfl := Option.some.inj h
      cases ha; cases hb
      rename_i L h1 L' h2
      rw [h1] at h2; obtain rfl := Option.some.inj h2
      simp only [Sem.run_bind, sizeIs_run hs, Result.andThen_ok, ne_eq, hn, not_false_eq_true, if_true, sameAddr, beq_self_eq_true, Sem.run_pure]
      rw [beq_addr]
    · cases h
  · obtain rfl := Option.some.inj h; obtain ⟨e, rfl⟩ := hk; cases ha; cases hb; rfl
  · obtain rfl := Option.some.inj h; obtain ⟨e, rfl⟩ := hk; cases ha; cases hb; rfl
  · obtain rfl := Option.some.inj h; obtain ⟨e, rfl⟩ := hk; cases ha; cases hb; rfl
  · obtain rfl := Option.some.inj h; obtain ⟨e, rfl⟩ := hk; cases ha; cases hb; rfl
  · obtain rfl := Option.some.inj h; obtain ⟨e, rfl⟩ := hk; cases ha; cases hb <;> rfl
  · obtain rfl := Option.some.inj h; obtain ⟨e, rfl⟩ := hk; cases hb; cases ha <;> rfl
  · obtain rfl := Option.some.inj h; obtain ⟨x, y, z, rfl⟩ := hk; cases ha; cases hb; rfl
  · obtain rfl := Option.some.inj h; obtain ⟨x, y, z, rfl⟩ := hk; cases ha; cases hb; rfl
  · obtain rfl := Option.some.inj h; obtain ⟨x, y, z, rfl⟩ := hk; cases ha; cases hb; rfl
  · obtain rfl := Option.some.inj h; obtain ⟨x, y, rfl⟩ := hk; cases ha; cases hb; rfl
  · obtain rfl := Option.some.inj h; obtain ⟨x, y, rfl⟩ := hk; cases ha; cases hb; rfl
  · obtain rfl := Option.some.inj h; obtain ⟨x, y, rfl⟩ := hk; cases ha; cases hb; rfl
  · obtain ⟨j, rfl⟩ := hk
    split at h
    · rename_i k1 c ts k2 d us s1 s2
      split at h
      · rename_i hkk; subst hkk
        obtain ⟨o1, rfl⟩ := symOf_vr s1 ha
        obtain ⟨o2, rfl⟩ := symOf_vr s2 hb
        obtain ⟨z1, z2⟩ := sub_ev o1 o2
        have := zeroS_ev z2 h
        simp only [if_true, Sem.run_pure, this]
        congr 1
        rw [Bool.eq_iff_iff]; simp; omega
      · cases h
    · cases h

theorem plain_run {μ : Mu} : ∀ (d : Nat) (t : TypeId) (ks : List Nat) (a b : List AV) (X Y : List Value) (r : Bool), plainN P d t = some ks → eqPlain ks a b = some r → VRs μ a X → VRs μ b Y → ∀ (D : Nat) (w : World), d ≤ D → (Op.equalIn D t (ofCells P t X) (ofCells P t Y)).run P w = .ok r w
  | 0, t, ks, a, b, X, Y, r, hp, _, _, _, D, w, _ => by simp [plainN] at hp
  | d + 1, t, ks, a, b, X, Y, r, hp, he, ha, hb, D, w, hD => by
    obtain ⟨D, rfl⟩ : ∃ m, D = m + 1 := ⟨D - 1, by omega⟩
    have one : ∀ (k : Nat) (dd : TypeDesc), P.underlying t = some dd → aggD dd = false → k ≤ 2 → ks = [k] → KindD P k dd → (Op.equalIn (D + 1) t (ofCells P t X) (ofCells P t Y)).run P w = .ok r w := fun k dd hu hag hk hks hm => by
      subst hks
      obtain ⟨l1, l2⟩ := eqPlain_length _ _ _ _ he
      obtain ⟨x, rfl⟩ := List.length_eq_one_iff.1 l1
      obtain ⟨y, rfl⟩ := List.length_eq_one_iff.1 l2
      obtain ⟨u, hu1, rfl⟩ : ∃ u, VR μ x u ∧ X = [u] := by cases ha with | cons h t => cases t; exact ⟨_, h, rfl⟩
      obtain ⟨v, hv1, rfl⟩ : ∃ u, VR μ y u ∧ Y = [u] := by cases hb with | cons h t => cases t; exact ⟨_, h, rfl⟩
      simp only [eqPlain, hk, if_true] at he
      split at he
      · rename_i r0 q h1 h2
        obtain rfl := Option.some.inj he
        obtain rfl : true = q := by simpa using h2
        have e1 : ofCells P t [u] = u := by unfold ofCells; rw [hu]; cases dd <;> first | rfl | (simp [aggD] at hag)
        have e2 : ofCells P t [v] = v := by unfold ofCells; rw [hu]; cases dd <;> first | rfl | (simp [aggD] at hag)
        rw [e1, e2, Bool.and_true]
        exact eqA_run h1 hu1 hv1 t dd hu hm D w
      · cases he
    simp only [plainN] at hp
    split at hp
    · rename_i hu; obtain rfl := Option.some.inj hp; exact one 0 _ hu rfl (by omega) rfl rfl
    · rename_i hu; obtain rfl := Option.some.inj hp; exact one 1 _ hu rfl (by omega) rfl ⟨_, rfl⟩
    · rename_i hu; obtain rfl := Option.some.inj hp; exact one 2 _ hu rfl (by omega) rfl rfl
    · rename_i fs hu
      split at hp
      · cases hp
      rename_i hst
      have hf : P.fieldsOf t = fs := by simp [Program.fieldsOf, hu]
      have e1 : ofCells P t X = .agg X.toArray := by unfold ofCells; rw [hu]
      have e2 : ofCells P t Y = .agg Y.toArray := by unfold ofCells; rw [hu]
      rw [e1, e2, run_equalIn_struct w D t _ _ (by rw [hf]; exact hu) (by simpa using hst), hf]
      have l1 := ha.length
      have l2 := hb.length
      obtain ⟨m1, m2⟩ := eqPlain_length _ _ _ _ he
      -- field by field
      have key : ∀ (fl : List Field) (off : Nat) (kl : List Nat) (q : Bool), plainFs P (plainN P d) fl off = some kl → eqPlain kl (a.drop off) (b.drop off) = some q → off + kl.length = a.length → (Op.eqFields D X.toArray Y.toArray fl).run P w = .ok q w := by
        intro fl
        induction fl with
        | nil =>
          intro off kl q h1 h2 h3
          obtain rfl : [] = kl := by simpa [plainFs] using h1
          have : a.drop off = [] := List.drop_eq_nil_of_le (by simp at h3; omega)
          have : b.drop off = [] := List.drop_eq_nil_of_le (by simp at h3; omega)
          simp_all [eqPlain, Op.eqFields]
        | cons f fl ih =>
          intro off kl q h1 h2 h3
          simp only [plainFs] at h1
          split at h1
          rotate_left
          · cases h1
          rename_i hname
          split at h1
          rotate_left
          · cases h1
          rename_i n hn
          split at h1
          rotate_left
          · cases h1
          rename_i hsz
          split at h1
          rotate_left
          · cases h1
          rename_i m hm
          obtain rfl := Option.some.inj h1
          obtain ⟨r1, r2, q1, q2, rfl⟩ := eqPlain_append n m _ _ q h2
          rw [List.drop_drop, List.drop_drop] at q2
          simp only [List.length_append] at h3
          have p1 := part_run (P := P) (w := w) (off := f.offset) (xs := X) hn hsz (by omega)
          have p2 := part_run (P := P) (w := w) (off := f.offset) (xs := Y) hn hsz (by omega)
          have hrec := plain_run d f.type n _ _ _ _ r1 hn q1 ((ha.drop off).take n.length) ((hb.drop off).take n.length) D w (by omega)
          rw [← hname.2] at hrec q2 h3
          simp only [Op.eqFields, hname.1, ne_eq, not_false_eq_true, if_true, Sem.run_bind, p1, p2, Result.andThen_ok, hrec]
          cases r1 with
          | false => simp
          | true => simpa using ih (f.offset + n.length) m r2 (by rw [hname.2]; exact hm) q2 (by omega)
      exact key fs.toList 0 ks r hp (by simpa using he) (by omega)
    · cases hp

def isC : Operand → Bool
  | .const _ => true
  | _ => false

def kindOk (P : Program) (k : Nat) (t : TypeId) (y z : Operand) : Bool := match P.underlying t with
  | some .bool => k == 0
  | some (.pointer e) => k == 3 && (match P.info? e with | some i => i.size != 0 | none => false)
  | some (.interface _) => k == 4 && (isC y || isC z)
  | some (.slice _) => k == 5
  | some (.func ..) => k == 6
  | some (.map ..) => k == 7
  | _ => false
theorem kindOk_spec {k : Nat} {t : TypeId} {y z : Operand} (h : kindOk P k t y z = true) : ∃ d, P.underlying t = some d ∧ KindD P k d ∧ k ≠ 1 ∧ k ≠ 2 ∧ (k = 4 → (isC y || isC z) = true) := by
  unfold kindOk at h
  split at h <;> (try (cases h; done)) <;> simp only [Bool.and_eq_true, beq_iff_eq] at h
  · subst h; exact ⟨_, ‹_›, rfl, by omega, by omega, by omega⟩
  · obtain ⟨rfl, h⟩ := h
    split at h
    · rename_i i hi; exact ⟨_, ‹_›, ⟨_, i.size, rfl, by simp [sizeIs, hi], by simpa using h⟩, by omega, by omega, by omega⟩
    · cases h
  · obtain ⟨rfl, h⟩ := h; exact ⟨_, ‹_›, ⟨_, rfl⟩, by omega, by omega, fun _ => h⟩
  · subst h; exact ⟨_, ‹_›, ⟨_, rfl⟩, by omega, by omega, by omega⟩
  · subst h; exact ⟨_, ‹_›, ⟨_, _, _, rfl⟩, by omega, by omega, by omega⟩
  · subst h; exact ⟨_, ‹_›, ⟨_, _, rfl⟩, by omega, by omega, by omega⟩

def isStruct (P : Program) (t : TypeId) : Bool := match P.underlying t with
  | some (.struct _) => true
  | _ => false
end Go.Ab
