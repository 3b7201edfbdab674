/-
  RULES FOR EACH OPERATION.
-/
import Derived.Test.YtnhfopfmgodllaaSl
noncomputable section
namespace Go.Sl
open Go Go.Ab
set_option linter.unusedSectionVars false
set_option linter.unusedVariables false
variable {AP : AProg} {G : GB} {E : Env} {H : List As} {K : GB → Env → List As → Prop} {l : List AI} {d : Option Nat}

theorem wpi_nil (h : K G E H) : WpI AP G [] E H K := fun F S fr p f => ⟨0, fr, S, rfl, G, E, H, h, p, f, GLe.refl _⟩

theorem wpi_step {op : AOp} (h : ∀ F S fr, Hp G S F H → FrE E fr → ∃ n v S', runI AP.methods (callA AP n) op fr S = some (v, S') ∧ ∃ G' H', Hp G' S' F H' ∧ GLe G G' ∧ WpI AP G' l (putE E d v) H' K) : WpI AP G (⟨d, none, op⟩ :: l) E H K := fun F S fr p f => by
  obtain ⟨n, v, S', h1, G', H', h2, h3, h4⟩ := h F S fr p f
  obtain ⟨n2, fr2, S2, k1, G2, E2, H2, k2, k3, k4, k5⟩ := h4 F S' (putD fr d (some v)) h2 (f.put d v)
  have m1 : ∀ f vs S r, callA AP n f vs S = some r → callA AP (max n n2) f vs S = some r := fun f vs S r e => callA_mono (Nat.le_max_left n n2) e
  have m2 : ∀ f vs S r, callA AP n2 f vs S = some r → callA AP (max n n2) f vs S = some r := fun f vs S r e => callA_mono (Nat.le_max_right n n2) e
  refine ⟨max n n2, fr2, S2, ?_, G2, E2, H2, k2, k3, k4, h3.trans k5⟩
  have e1 : runIs AP.methods (callA AP n) [⟨d, none, op⟩] fr S = some (putD fr d (some v), S') := by
    show runOne AP.methods (callA AP n) ⟨d, none, op⟩ (runIs AP.methods (callA AP n) []) fr S = _
    simp only [runOne, runG, h1]; rfl
  have e2 := runIs_mono m1 _ _ _ _ e1
  have e3 := runIs_mono m2 _ _ _ _ k1
  have e2' : runOne AP.methods (callA AP (max n n2)) ⟨d, none, op⟩ (fun fr S => some (fr, S)) fr S = some (putD fr d (some v), S') := e2
  show runOne AP.methods (callA AP (max n n2)) ⟨d, none, op⟩ (runIs AP.methods (callA AP (max n n2)) l) fr S = _
  simp only [runOne, runG] at e2' ⊢
  split at e2' <;> (try (cases e2'; done))
  rename_i v2 S3 hv
  simp only [Option.some.injEq, Prod.mk.injEq] at e2'
  obtain ⟨e4, rfl⟩ := e2'
  rw [e4]
  exact e3

theorem wpi_pure {op : AOp} {v : AV} (h : ∀ F S fr call, Hp G S F H → FrE E fr → runI AP.methods call op fr S = some (v, S)) (k : WpI AP G l (putE E d v) H K) : WpI AP G (⟨d, none, op⟩ :: l) E H K :=
  wpi_step fun F S fr p f => ⟨0, v, S, h F S fr _ p f, G, H, p, GLe.refl _, k⟩

/-! ### Guards -/
theorem wpi_gyes {op : AOp} {t : Nat} {w : Bool} (h : lk E t = some (.bool w)) (k : WpI AP G (⟨d, none, op⟩ :: l) E H K) : WpI AP G (⟨d, some (t, w), op⟩ :: l) E H K := fun F S fr p f => by
  obtain ⟨n, fr', S', h1, r⟩ := k F S fr p f
  refine ⟨n, fr', S', ?_, r⟩
  have h1' : runOne AP.methods (callA AP n) ⟨d, none, op⟩ (runIs AP.methods (callA AP n) l) fr S = some (fr', S') := h1
  show runOne AP.methods (callA AP n) ⟨d, some (t, w), op⟩ (runIs AP.methods (callA AP n) l) fr S = some (fr', S')
  simp only [runOne, f _ _ h] at h1' ⊢
  have hw : (w == w) = true := by cases w <;> rfl
  simp only [hw]
  exact h1'
theorem wpi_gno {op : AOp} {t : Nat} {w : Bool} (h : lk E t = some (.bool (!w)) ∨ lk E t = some (.tup [])) (k : WpI AP G l (putE E d (.tup [])) H K) : WpI AP G (⟨d, some (t, w), op⟩ :: l) E H K := fun F S fr p f => by
  obtain ⟨n, fr', S', h1, r⟩ := k F S _ p (f.put d (.tup []))
  refine ⟨n, fr', S', ?_, r⟩
  show runOne AP.methods (callA AP n) ⟨d, some (t, w), op⟩ (runIs AP.methods (callA AP n) l) fr S = some (fr', S')
  rcases h with h | h
  · simp only [runOne, f _ _ h]
    have hw : ((!w) == w) = false := by cases w <;> rfl
    simp only [hw]
    exact h1
  · simp only [runOne, f _ _ h]
    exact h1

theorem wpi_case {p : Bool} (t : Nat) (h : lk E t = some (.bool p)) (k1 : p = true → WpI AP G l ((t, .bool true) :: E) H K) (k2 : p = false → WpI AP G l ((t, .bool false) :: E) H K) : WpI AP G l E H K := by
  cases p with
  | true => exact (k1 rfl).pre (SubE.cons h (fun _ _ e => e)) HLe.refl
  | false => exact (k2 rfl).pre (SubE.cons h (fun _ _ e => e)) HLe.refl

/-! ### Operations that only look -/
theorem wpi_mov {x v} (hx : evE E x = some v) (k : WpI AP G l (putE E d v) H K) : WpI AP G (⟨d, none, .a (.mov x)⟩ :: l) E H K :=
  wpi_pure (fun F S fr call p f => by simp only [runI, stepA, do_mov, f.ev hx]) k
theorem wpi_load {x b o op ro c sz v} (hx : evE E x = some (.ptr b o)) (r : Reads G H b (.cells op ro c)) (hp : Ab.part c o sz = some v) (k : WpI AP G l (putE E d v) H K) : WpI AP G (⟨d, none, .a (.load sz x)⟩ :: l) E H K :=
  wpi_pure (fun F S fr call p f => by simp only [runI, stepA, do_load, f.ev hx, loadA, cellsOf, (r.get p).1, hp]) k
theorem wpi_fieldA {x b o off} (hx : evE E x = some (.ptr b o)) (k : WpI AP G l (putE E d (.ptr b (o + off))) H K) : WpI AP G (⟨d, none, .a (.fieldA off x)⟩ :: l) E H K :=
  wpi_pure (fun F S fr call p f => by simp only [runI, stepA, do_fieldA, f.ev hx]) k
theorem wpi_idxS {x i b o len cap es k' n} (hx : evE E x = some (.slc b o len cap)) (hi : evE E i = some (.int k' n)) (h0 : 0 ≤ n) (h1 : n < len) (k : WpI AP G l (putE E d (.ptr b (o + n.toNat * es))) H K) : WpI AP G (⟨d, none, .a (.idxS es x i)⟩ :: l) E H K :=
  wpi_pure (fun F S fr call p f => by simp only [runI, stepA, do_idxS, f.ev hx, f.ev hi, h0, h1, and_self, if_true]) k
theorem wpi_idxSn {x i b o len cap es k'} {n : Nat} (hx : evE E x = some (.slc b o len cap)) (hi : evE E i = some (.int k' n)) (h1 : n < len) (k : WpI AP G l (putE E d (.ptr b (o + n * es))) H K) : WpI AP G (⟨d, none, .a (.idxS es x i)⟩ :: l) E H K :=
  wpi_idxS hx hi (by omega) (by omega) k
theorem wpi_nilchk {x b o} (hx : evE E x = some (.ptr b o)) (k : WpI AP G l (putE E d (.ptr b o)) H K) : WpI AP G (⟨d, none, .a (.nilchk x)⟩ :: l) E H K :=
  wpi_pure (fun F S fr call p f => by simp only [runI, stepA, do_nilchk, f.ev hx]) k
theorem wpi_nilchk_fn {x g c} (hx : evE E x = some (.fn g c)) (k : WpI AP G l (putE E d (.fn g c)) H K) : WpI AP G (⟨d, none, .a (.nilchk x)⟩ :: l) E H K :=
  wpi_pure (fun F S fr call p f => by simp only [runI, stepA, do_nilchk, f.ev hx]) k
theorem wpi_nilchk_if {x t v} (hx : evE E x = some (.iface t v)) (k : WpI AP G l (putE E d (.iface t v)) H K) : WpI AP G (⟨d, none, .a (.nilchk x)⟩ :: l) E H K :=
  wpi_pure (fun F S fr call p f => by simp only [runI, stepA, do_nilchk, f.ev hx]) k
theorem wpi_ibin {x y op k' a b v} (hx : evE E x = some (.int k' a)) (hy : evE E y = some (.int k' b)) (hr : intBin op k' a b = some v) (k : WpI AP G l (putE E d v) H K) : WpI AP G (⟨d, none, .a (.ibin op x y)⟩ :: l) E H K :=
  wpi_pure (fun F S fr call p f => by
    have h1 := f.ev hx
    have h2 := f.ev hy
    cases op <;> (first | (simp only [runI, stepA, do_ibin, h1, h2, hr, if_true]; done) | (simp [intBin] at hr))) k
theorem wr64 {n : Int} (h1 : -9223372036854775808 ≤ n) (h2 : n ≤ 9223372036854775807) : wr .i64 n = n := by
  have : inK .i64 n = true := by
    cases n with
    | ofNat m => exact Nat.ble_eq_true_of_le (by have := h2; simp only [Int.ofNat_eq_natCast] at this; omega)
    | negSucc m => exact Nat.ble_eq_true_of_le (by omega)
  unfold wr; rw [this]; rfl
theorem wr8 {n : Int} (h1 : 0 ≤ n) (h2 : n ≤ 255) : wr .u8 n = n := by
  have : inK .u8 n = true := by
    cases n with
    | ofNat m => exact Nat.ble_eq_true_of_le (by have := h2; simp only [Int.ofNat_eq_natCast] at this; omega)
    | negSucc m => omega
  unfold wr; rw [this]; rfl
theorem wrU64 {n : Int} (h1 : 0 ≤ n) (h2 : n ≤ 18446744073709551615) : wr .u64 n = n := by
  have : inK .u64 n = true := by
    cases n with
    | ofNat m => exact Nat.ble_eq_true_of_le (by have := h2; simp only [Int.ofNat_eq_natCast] at this; omega)
    | negSucc m => omega
  unfold wr; rw [this]; rfl
theorem wpi_add {x y a b} (hx : evE E x = some (.int .i64 a)) (hy : evE E y = some (.int .i64 b)) (h1 : -9223372036854775808 ≤ a + b) (h2 : a + b ≤ 9223372036854775807) (k : WpI AP G l (putE E d (.int .i64 (a + b))) H K) : WpI AP G (⟨d, none, .a (.ibin .add x y)⟩ :: l) E H K :=
  wpi_ibin hx hy (by simp only [intBin, wr64 h1 h2]) k
theorem wpi_sub {x y a b} (hx : evE E x = some (.int .i64 a)) (hy : evE E y = some (.int .i64 b)) (h1 : -9223372036854775808 ≤ a - b) (h2 : a - b ≤ 9223372036854775807) (k : WpI AP G l (putE E d (.int .i64 (a - b))) H K) : WpI AP G (⟨d, none, .a (.ibin .sub x y)⟩ :: l) E H K :=
  wpi_ibin hx hy (by simp only [intBin, wr64 h1 h2]) k
theorem wpi_mul {x y a b} (hx : evE E x = some (.int .i64 a)) (hy : evE E y = some (.int .i64 b)) (h1 : -9223372036854775808 ≤ a * b) (h2 : a * b ≤ 9223372036854775807) (k : WpI AP G l (putE E d (.int .i64 (a * b))) H K) : WpI AP G (⟨d, none, .a (.ibin .mul x y)⟩ :: l) E H K :=
  wpi_ibin hx hy (by simp only [intBin, wr64 h1 h2]) k
theorem wpi_quo {x y a b} (hx : evE E x = some (.int .i64 a)) (hy : evE E y = some (.int .i64 b)) (ha : 0 ≤ a) (h2 : a ≤ 9223372036854775807) (hb : 0 < b) (k : WpI AP G l (putE E d (.int .i64 (a / b))) H K) : WpI AP G (⟨d, none, .a (.ibin .quo x y)⟩ :: l) E H K :=
  wpi_ibin hx hy (by
    have h3 : a.tdiv b = a / b := Int.tdiv_eq_ediv_of_nonneg ha
    have h4 : 0 ≤ a / b := Int.ediv_nonneg ha (by omega)
    have h5 : a / b ≤ a := Int.ediv_le_self _ ha
    simp only [intBin, h3, show b ≠ 0 by omega, if_false, wr64 (n := a / b) (by omega) (by omega)]) k
theorem wpi_quo8 {x y a b} (hx : evE E x = some (.int .u8 a)) (hy : evE E y = some (.int .u8 b)) (ha : 0 ≤ a) (h2 : a ≤ 255) (hb : 0 < b) (k : WpI AP G l (putE E d (.int .u8 (a / b))) H K) : WpI AP G (⟨d, none, .a (.ibin .quo x y)⟩ :: l) E H K :=
  wpi_ibin hx hy (by
    have h3 : a.tdiv b = a / b := Int.tdiv_eq_ediv_of_nonneg ha
    have h4 : 0 ≤ a / b := Int.ediv_nonneg ha (by omega)
    have h5 : a / b ≤ a := Int.ediv_le_self _ ha
    simp only [intBin, h3, show b ≠ 0 by omega, if_false, wr8 (n := a / b) (by omega) (by omega)]) k
theorem wpi_rem {x y k' a b} (hx : evE E x = some (.int k' a)) (hy : evE E y = some (.int k' b)) (ha : 0 ≤ a) (hb : 0 < b) (k : WpI AP G l (putE E d (.int k' (a % b))) H K) : WpI AP G (⟨d, none, .a (.ibin .rem x y)⟩ :: l) E H K :=
  wpi_ibin hx hy (by simp only [intBin, show b ≠ 0 by omega, if_false, Int.tmod_eq_emod_of_nonneg ha]) k
theorem wpi_pick_t {c a b v} (hc : evE E c = some (.bool true)) (ha : evE E a = some v) (k : WpI AP G l (putE E d v) H K) : WpI AP G (⟨d, none, .b (.pick c a b)⟩ :: l) E H K :=
  wpi_pure (fun F S fr call p f => by simp only [runI, stepB, do_pick, f.ev hc, f.ev ha]) k
theorem wpi_pick_f {c a b v} (hc : evE E c = some (.bool false)) (ha : evE E b = some v) (k : WpI AP G l (putE E d v) H K) : WpI AP G (⟨d, none, .b (.pick c a b)⟩ :: l) E H K :=
  wpi_pure (fun F S fr call p f => by simp only [runI, stepB, do_pick, f.ev hc, f.ev ha]) k
theorem wpi_pick_b {c a b p x y} (hc : evE E c = some (.bool p)) (ha : evE E a = some (.bool x)) (hb : evE E b = some (.bool y)) (k : WpI AP G l (putE E d (.bool (cond p x y))) H K) : WpI AP G (⟨d, none, .b (.pick c a b)⟩ :: l) E H K :=
  wpi_pure (fun F S fr call q f => by cases p <;> simp only [runI, stepB, do_pick, f.ev hc, f.ev ha, f.ev hb, cond]) k
theorem wpi_extract {x i t v} (hx : evE E x = some (.tup t)) (hv : nth t i = some v) (k : WpI AP G l (putE E d v) H K) : WpI AP G (⟨d, none, .b (.extract x i)⟩ :: l) E H K :=
  wpi_pure (fun F S fr call p f => by simp only [runI, stepB, do_extract, f.ev hx, hv]) k
theorem wpi_lenS {x v n} (hx : evE E x = some v) (hn : lenSl v = some n) (k : WpI AP G l (putE E d (.int .i64 n)) H K) : WpI AP G (⟨d, none, .b (.lenS x)⟩ :: l) E H K :=
  wpi_pure (fun F S fr call p f => by
    have h1 := f.ev hx
    cases v <;> simp only [lenSl, Option.some.injEq, reduceCtorEq] at hn <;> subst hn <;> simp only [runI, stepB, do_lenS, h1] <;> rfl) k
theorem wpi_build {cells ps vs c} (hx : evEP E ps = some vs) (hc : fill cells vs = some c) (k : WpI AP G l (putE E d (.agg c)) H K) : WpI AP G (⟨d, none, .b (.build cells ps)⟩ :: l) E H K :=
  wpi_pure (fun F S fr call p f => by simp only [runI, stepB, do_build, f.evp hx, hc]) k
theorem wpi_eq {neg kd x y a b r} (hx : evE E x = some a) (hy : evE E y = some b) (hr : eqA kd a b = some r) (k : WpI AP G l (putE E d (.bool (r != neg))) H K) : WpI AP G (⟨d, none, .b (.eq neg kd x y)⟩ :: l) E H K :=
  wpi_pure (fun F S fr call p f => by simp only [runI, stepB, do_eq, f.ev hx, f.ev hy, hr]) k
theorem wpi_eqS {neg ks x y a b r} (hx : evE E x = some (.agg a)) (hy : evE E y = some (.agg b)) (hr : eqPlain ks a b = some r) (k : WpI AP G l (putE E d (.bool (r != neg))) H K) : WpI AP G (⟨d, none, .f (.eqS neg ks x y)⟩ :: l) E H K :=
  wpi_pure (fun F S fr call p f => by simp only [runI, stepF, do_eqS, f.ev hx, f.ev hy, hr]) k
theorem wpi_not {x p} (hx : evE E x = some (.bool p)) (k : WpI AP G l (putE E d (.bool !p)) H K) : WpI AP G (⟨d, none, .c (.un .not x)⟩ :: l) E H K :=
  wpi_pure (fun F S fr call q f => by simp only [runI, stepC, do_un, f.ev hx]) k
theorem wpi_neg {x n m} {kd : IntKind} (hx : evE E x = some (.int kd n)) (hm : kd.wrap (0 - n) = m) (k : WpI AP G l (putE E d (.int kd m)) H K) : WpI AP G (⟨d, none, .c (.un .neg x)⟩ :: l) E H K :=
  wpi_pure (fun F S fr call q f => by simp only [runI, stepC, do_un, f.ev hx, hm]) k
theorem wpi_convInt {k' k'' x n m} (hx : evE E x = some (.int k'' n)) (hm : wr k' n = m) (k : WpI AP G l (putE E d (.int k' m)) H K) : WpI AP G (⟨d, none, .c (.convInt k' x)⟩ :: l) E H K :=
  wpi_pure (fun F S fr call q f => by simp only [runI, stepC, do_convInt, f.ev hx, hm]) k
theorem wpi_sbin {op x y a b v} (hx : evE E x = some (.str a)) (hy : evE E y = some (.str b)) (hr : strBin op a b = some v) (k : WpI AP G l (putE E d v) H K) : WpI AP G (⟨d, none, .c (.sbin op x y)⟩ :: l) E H K :=
  wpi_pure (fun F S fr call q f => by simp only [runI, stepC, do_sbin, f.ev hx, f.ev hy, hr]) k
theorem wpi_fieldV {off sz x c v} (hx : evE E x = some (.agg c)) (hp : Ab.part c off sz = some v) (k : WpI AP G l (putE E d v) H K) : WpI AP G (⟨d, none, .c (.fieldV off sz x)⟩ :: l) E H K :=
  wpi_pure (fun F S fr call q f => by simp only [runI, stepC, do_fieldV, f.ev hx, hp]) k
theorem wpi_idxStr {x i s k' n} {b : Nat} (hx : evE E x = some (.str s)) (hi : evE E i = some (.int k' n)) (h0 : 0 ≤ n) (hb : s[n.toNat]? = some b) (k : WpI AP G l (putE E d (.int .u8 b)) H K) : WpI AP G (⟨d, none, .c (.idxStr x i)⟩ :: l) E H K :=
  wpi_pure (fun F S fr call q f => by simp only [runI, stepC, do_idxStr, f.ev hx, f.ev hi, h0, if_true, hb]) k
theorem wpi_lenStr {x s} (hx : evE E x = some (.str s)) (k : WpI AP G l (putE E d (.int .i64 s.length)) H K) : WpI AP G (⟨d, none, .c (.lenStr x)⟩ :: l) E H K :=
  wpi_pure (fun F S fr call q f => by simp only [runI, stepC, do_lenStr, f.ev hx]) k
theorem wpi_idxA {len es : Nat} {x i b o k' n} (hx : evE E x = some (.ptr b o)) (hi : evE E i = some (.int k' n)) (h0 : 0 ≤ n) (h1 : n < len) (k : WpI AP G l (putE E d (.ptr b (o + n.toNat * es))) H K) : WpI AP G (⟨d, none, .d (.idxA len es x i)⟩ :: l) E H K :=
  wpi_pure (fun F S fr call q f => by simp only [runI, stepD, do_idxA, f.ev hx, f.ev hi, h0, h1, and_self, if_true]) k
theorem wpi_idxV {len es : Nat} {sz x i c k' n v} (hx : evE E x = some (.agg c)) (hi : evE E i = some (.int k' n)) (h0 : 0 ≤ n) (h1 : n < len) (hp : Ab.part c (n.toNat * es) sz = some v) (k : WpI AP G l (putE E d v) H K) : WpI AP G (⟨d, none, .d (.idxV len es sz x i)⟩ :: l) E H K :=
  wpi_pure (fun F S fr call q f => by simp only [runI, stepD, do_idxV, f.ev hx, f.ev hi, h0, h1, and_self, if_true, hp]) k
theorem wpi_convStr {x s} (hx : evE E x = some (.str s)) (k : WpI AP G l (putE E d (.str s)) H K) : WpI AP G (⟨d, none, .d (.convStr x)⟩ :: l) E H K :=
  wpi_pure (fun F S fr call q f => by simp only [runI, stepD, do_convStr, f.ev hx]) k
theorem wpi_i2s {x k' n} (hx : evE E x = some (.int k' n)) (k : WpI AP G l (putE E d (.str (utf8 n))) H K) : WpI AP G (⟨d, none, .d (.i2s x)⟩ :: l) E H K :=
  wpi_pure (fun F S fr call q f => by simp only [runI, stepD, do_i2s, f.ev hx]) k
theorem wpi_mkIface {t x v} (hx : evE E x = some v) (k : WpI AP G l (putE E d (.iface t v)) H K) : WpI AP G (⟨d, none, .d (.mkIface t x)⟩ :: l) E H K :=
  wpi_pure (fun F S fr call q f => by simp only [runI, stepD, do_mkIface, f.ev hx]) k
theorem wpi_mkFn {g xs vs} (hx : evEs E xs = some vs) (k : WpI AP G l (putE E d (.fn g vs)) H K) : WpI AP G (⟨d, none, .d (.mkFn g xs)⟩ :: l) E H K :=
  wpi_pure (fun F S fr call q f => by simp only [runI, stepD, do_mkFn, f.evs hx]) k
theorem wpi_slcA {n es x lo hi b o l' h' lo' hi'} (hx : evE E x = some (.ptr b o)) (hl : evEO E lo = some lo') (hh : evEO E hi = some hi') (hb : bound n hi' n = some h') (hb' : bound h' lo' 0 = some l') (k : WpI AP G l (putE E d (.slc b (if n = l' then o else o + l' * es) (h' - l') (some (n - l')))) H K) : WpI AP G (⟨d, none, .e (.slcA n es x lo hi)⟩ :: l) E H K :=
  wpi_pure (fun F S fr call q f => by simp only [runI, stepE, do_slcA, f.ev hx, f.evo hl, f.evo hh, hb, hb']) k
theorem wpi_slcStr {x lo hi s l' h' lo' hi'} (hx : evE E x = some (.str s)) (hl : evEO E lo = some lo') (hh : evEO E hi = some hi') (hb : bound s.length hi' s.length = some h') (hb' : bound h' lo' 0 = some l') (k : WpI AP G l (putE E d (.str ((s.take h').drop l'))) H K) : WpI AP G (⟨d, none, .e (.slcStr x lo hi)⟩ :: l) E H K :=
  wpi_pure (fun F S fr call q f => by simp only [runI, stepE, do_slcStr, f.ev hx, f.evo hl, f.evo hh, hb, hb']) k
theorem wpi_slcK {es x lo hi mx b o len c m' h' l' lo' hi' mx'} (hx : evE E x = some (.slc b o len (some c))) (hl : evEO E lo = some lo') (hh : evEO E hi = some hi') (hm : evEO E mx = some mx') (b1 : bound c mx' c = some m') (b2 : bound m' hi' len = some h') (b3 : bound h' lo' 0 = some l')
    (k : WpI AP G l (putE E d (.slc b (if m' = l' then o else o + l' * es) (h' - l') (some (m' - l')))) H K) : WpI AP G (⟨d, none, .c (.slc es x lo hi mx)⟩ :: l) E H K :=
  wpi_pure (fun F S fr call q f => by simp only [runI, stepC, do_slc, f.ev hx, f.evo hl, f.evo hh, f.evo hm, b1, b2, b3]) k
theorem wpi_slcN {es x lo hi mx l' h' m' lo' hi' mx'} (hx : evE E x = some .nils) (hl : evEO E lo = some lo') (hh : evEO E hi = some hi') (hm : evEO E mx = some mx') (b1 : bound 0 mx' 0 = some m') (b2 : bound 0 hi' 0 = some h') (b3 : bound 0 lo' 0 = some l')
    (k : WpI AP G l (putE E d .nils) H K) : WpI AP G (⟨d, none, .c (.slc es x lo hi mx)⟩ :: l) E H K :=
  wpi_pure (fun F S fr call q f => by simp only [runI, stepC, do_slc, f.ev hx, f.evo hl, f.evo hh, f.evo hm, b1, b2, b3]) k
/-- Of a slice whose capacity isn't known. -/
theorem wpi_slcU {es x lo hi b o len h' l' lo' hi' ro c} (hx : evE E x = some (.slc b o len none)) (hl : evEO E lo = some lo') (hh : evEO E hi = some hi') (r : Reads G H b (.cells (some es) ro c)) (b2 : bound len hi' len = some h') (b3 : bound h' lo' 0 = some l')
    (k : WpI AP G l (putE E d (.slc b (o + l' * es) (h' - l') none)) H K) : WpI AP G (⟨d, none, .c (.slc es x lo hi none)⟩ :: l) E H K :=
  wpi_pure (fun F S fr call q f => by simp only [runI, stepC, do_slc, f.ev hx, f.evo hl, f.evo hh, show evO fr none = some none from rfl, (r.get q).1, b2, b3, if_true]) k
theorem wpi_lookup {kd zero m kx b kv es r} (hm : evE E m = some (.map b)) (hk : evE E kx = some kv) (rd : Reads G H b (.map es)) (hf : findK kd kv es = some r) (ok : Bool)
    (k : WpI AP G l (putE E d (if ok then .tup [r.getD zero, .bool r.isSome] else r.getD zero)) H K) : WpI AP G (⟨d, none, .e (.lookup kd zero m kx ok)⟩ :: l) E H K :=
  wpi_pure (fun F S fr call q f => by cases r <;> simp only [runI, stepE, do_lookup, f.ev hm, f.ev hk, (rd.get q).1, hf] <;> rfl) k
theorem wpi_lookup_nil {kd zero m kx kv} (hm : evE E m = some .nilm) (hk : evE E kx = some kv) (ok : Bool)
    (k : WpI AP G l (putE E d (if ok then .tup [zero, .bool false] else zero)) H K) : WpI AP G (⟨d, none, .e (.lookup kd zero m kx ok)⟩ :: l) E H K :=
  wpi_pure (fun F S fr call q f => by simp only [runI, stepE, do_lookup, f.ev hm, f.ev hk]) k
theorem wpi_lenM {x b es} (hx : evE E x = some (.map b)) (rd : Reads G H b (.map es)) (k : WpI AP G l (putE E d (.int .i64 es.length)) H K) : WpI AP G (⟨d, none, .e (.lenM x)⟩ :: l) E H K :=
  wpi_pure (fun F S fr call q f => by simp only [runI, stepE, do_lenM, f.ev hx, (rd.get q).1]) k
theorem wpi_lenC {n : Nat} (k : WpI AP G l (putE E d (.int .i64 n)) H K) : WpI AP G (⟨d, none, .e (.lenC n)⟩ :: l) E H K :=
  wpi_pure (fun F S fr call q f => rfl) k
theorem wpi_mins {xs v vs r} (hx : evEs E xs = some (v :: vs)) (hr : minI false v vs = some r) (k : WpI AP G l (putE E d r) H K) : WpI AP G (⟨d, none, .f (.mins xs)⟩ :: l) E H K :=
  wpi_pure (fun F S fr call q f => by simp only [runI, stepF, do_mins, f.evs hx, hr]) k
theorem wpi_maxs {xs v vs r} (hx : evEs E xs = some (v :: vs)) (hr : minI true v vs = some r) (k : WpI AP G l (putE E d r) H K) : WpI AP G (⟨d, none, .f (.maxs xs)⟩ :: l) E H K :=
  wpi_pure (fun F S fr call q f => by simp only [runI, stepF, do_maxs, f.evs hx, hr]) k
mutual
theorem AV.same_refl : ∀ v : AV, AV.same v v = true
  | .bool b => by cases b <;> rfl
  | .int k n => by simp [AV.same]
  | .sym k c ts => by simp [AV.same]
  | .str s => by simp [AV.same]
  | .nilp => rfl
  | .ptr b o => by simp [AV.same]
  | .nils => rfl
  | .slc b o len cap => by simp [AV.same]
  | .nilm => rfl
  | .map b => by simp [AV.same]
  | .fn f c => by simp [AV.same, AV.sames_refl c]
  | .nilFn => rfl
  | .iface t v => by simp [AV.same, AV.same_refl v]
  | .nilIface => rfl
  | .agg l => by simp [AV.same, AV.sames_refl l]
  | .tup l => by simp [AV.same, AV.sames_refl l]
theorem AV.sames_refl : ∀ l : List AV, AV.sames l l = true
  | [] => rfl
  | v :: l => by simp [AV.sames, AV.same_refl v, AV.sames_refl l]
end
theorem wpi_recheck {t sz x b o op ro c v} (ht : lk E t = some v) (hx : evE E x = some (.ptr b o)) (r : Reads G H b (.cells op ro c)) (hp : Ab.part c o sz = some v) (k : WpI AP G l (putE E d v) H K) : WpI AP G (⟨d, none, .f (.recheck t sz x)⟩ :: l) E H K :=
  wpi_pure (fun F S fr call p f => by simp only [runI, stepF, do_recheck, f _ _ ht, f.ev hx, loadA, cellsOf, (r.get p).1, hp, AV.same_refl, if_true]) k
/-! ### Operations that make or write blocks -/
theorem wpi_alloc {cells} (k : ∀ b, WpI AP G l (putE E d (.ptr b 0)) (pt b (.cells none false cells) :: H) K) : WpI AP G (⟨d, none, .c (.alloc cells)⟩ :: l) E H K :=
  wpi_step fun F S fr p f => ⟨0, _, _, rfl, G, _, hp_new _ p, GLe.refl _, k S.next⟩
theorem wpi_box {x v} (hx : evE E x = some v) (hf : flat v = true) (k : ∀ b, WpI AP G l (putE E d (.ptr b 0)) (pt b (.cells none false v.cells) :: H) K) : WpI AP G (⟨d, none, .b (.box x)⟩ :: l) E H K :=
  wpi_step fun F S fr p f => ⟨0, _, _, by simp only [runI, stepB, do_box, f.ev hx, hf, if_true], G, _, hp_new _ p, GLe.refl _, k S.next⟩
theorem wpi_bslice {len cells ps vs c} (hx : evEP E ps = some vs) (hc : fill cells vs = some c) (k : ∀ b, WpI AP G l (putE E d (.slc b 0 len (some len))) (pt b (.cells none false c) :: H) K) : WpI AP G (⟨d, none, .b (.bslice len cells ps)⟩ :: l) E H K :=
  wpi_step fun F S fr p f => ⟨0, _, _, by simp only [runI, stepB, do_bslice, f.evp hx, hc], G, _, hp_new _ p, GLe.refl _, k S.next⟩
theorem wpi_mkMap (k : ∀ b, WpI AP G l (putE E d (.map b)) (pt b (.map []) :: H) K) : WpI AP G (⟨d, none, .d .mkMap⟩ :: l) E H K :=
  wpi_step fun F S fr p f => ⟨0, _, _, rfl, G, _, hp_new _ p, GLe.refl _, k S.next⟩
theorem wpi_mkSlice {es bytes zero lx cx k1 k2} {n m : Nat} (hl : evE E lx = some (.int k1 n)) (hc : evE E cx = some (.int k2 m)) (h1 : n ≤ m) (h2 : m * bytes ≤ 2 ^ 47) (h3 : m < 2 ^ 62) (hz : zero.length = es)
    (k : ∀ b, WpI AP G l (putE E d (.slc b 0 n (some m))) (pt b (.cells none false (repl zero m)) :: H) K) : WpI AP G (⟨d, none, .c (.mkSlice es bytes zero lx cx)⟩ :: l) E H K :=
  wpi_step fun F S fr p f => by
    refine ⟨0, .slc S.next 0 n (some m), new S (.cells none false (repl zero m)), ?_, G, _, hp_new _ p, GLe.refl _, k S.next⟩
    have e47 : (2 : Int) ^ 47 = ((2 ^ 47 : Nat) : Int) := by decide
    have e62 : (2 : Int) ^ 62 = ((2 ^ 62 : Nat) : Int) := by decide
    have c1 : (0 : Int) ≤ n ∧ (n : Int) ≤ m ∧ (m : Int) * bytes ≤ 2 ^ 47 ∧ (m : Int) < 2 ^ 62 ∧ zero.length = es := by
      rw [e47, e62]
      exact ⟨Int.natCast_nonneg n, Int.ofNat_le.2 h1, Int.ofNat_le.2 h2, Int.ofNat_lt.2 h3, hz⟩
    show do_mkSlice es bytes zero lx cx fr S = _
    unfold do_mkSlice
    rw [f.ev hl, f.ev hc]
    exact if_pos c1
theorem wpi_s2b {x s} (hx : evE E x = some (.str s)) (k : ∀ b, WpI AP G l (putE E d (.slc b 0 s.length none)) (pt b (.cells (some 1) false (s.map fun (b : Nat) => AV.int .u8 (b : Int))) :: H) K) : WpI AP G (⟨d, none, .d (.s2b x)⟩ :: l) E H K :=
  wpi_step fun F S fr p f => ⟨0, _, _, by simp only [runI, stepD, do_s2b, f.ev hx], G, _, hp_new _ p, GLe.refl _, k S.next⟩
theorem wpi_range {x s} (hx : evE E x = some (.str s)) (k : ∀ b, WpI AP G l (putE E d (.ptr b 0)) (pt b (.siter s 0) :: H) K) : WpI AP G (⟨d, none, .e (.range x)⟩ :: l) E H K :=
  wpi_step fun F S fr p f => ⟨0, _, _, by simp only [runI, stepE, do_range, f.ev hx], G, _, hp_new _ p, GLe.refl _, k S.next⟩
/-- Ours with one thing in another's place. -/
inductive Rep {α : Type _} (P P' : α) : List α → List α → Prop where
  | head {L : List α} : Rep P P' (P :: L) (P' :: L)
  | tail {Q : α} {L L2 : List α} (h : Rep P P' L L2) : Rep P P' (Q :: L) (Q :: L2)
theorem Rep.take {α : Type _} {P P' : α} : ∀ {L L' : List α}, Rep P P' L L' → ∃ L2, Take P L L2 ∧ Take P' L' L2
  | _, _, .head => ⟨_, .head, .head⟩
  | _, _, .tail h => by obtain ⟨H2, a, b⟩ := h.take; exact ⟨_, .tail a, .tail b⟩
theorem hp_untake {S : St} {F P : As} {H H2 : List As} (t : Take P H H2) (p : Hp G S F (P :: H2)) : Hp G S F H := hp_map (fun _ => sat_cons_mono (sat_untake t)) p
theorem wpi_store {sz x y b o v op c c' H'} (hx : evE E x = some (.ptr b o)) (hy : evE E y = some v) (r : Rep (pt b (.cells op false c)) (pt b (.cells op false c')) H H') (hs : splice c o v.cells = some c') (hl : v.cells.length = sz) (hf : flat v = true)
    (k : WpI AP G l (putE E d (.tup [])) H' K) : WpI AP G (⟨d, none, .a (.store sz x y)⟩ :: l) E H K :=
  wpi_step fun F S fr p f => by
    obtain ⟨H2, t1, t2⟩ := r.take
    have q := hp_take t1 p
    refine ⟨0, _, ⟨S.next, S.heap.put b (some (.cells op false c'))⟩, ?_, G, H', hp_untake t2 (hp_put q), GLe.refl _, k⟩
    simp only [runI, stepA, do_store, f.ev hx, f.ev hy, hl, hf, and_self, if_true, storeA, (hp_get q).1, hs]
/-- A value of one cell. -/
def One (v : AV) : Prop := v.cells = [v] ∧ flat v = true
theorem SlForm.one {es v n cs} (h : SlForm es v n cs) : One v := by
  rcases h with ⟨rfl, rfl, rfl⟩ | ⟨b, rfl, h2⟩ <;> exact ⟨rfl, rfl⟩
theorem wpi_store1 {x y b o v op c c' H'} (hx : evE E x = some (.ptr b o)) (hy : evE E y = some v) (h1 : One v) (r : Rep (pt b (.cells op false c)) (pt b (.cells op false c')) H H') (hs : splice c o [v] = some c')
    (k : WpI AP G l (putE E d (.tup [])) H' K) : WpI AP G (⟨d, none, .a (.store 1 x y)⟩ :: l) E H K :=
  wpi_store hx hy r (by rw [h1.1]; exact hs) (by rw [h1.1]; rfl) h1.2 k
theorem wpi_mapUpd {kd m kx vx b kv v es es' H'} (hm : evE E m = some (.map b)) (hk : evE E kx = some kv) (hv : evE E vx = some v) (r : Rep (pt b (.map es)) (pt b (.map es')) H H') (hu : updK kd kv v es = some es')
    (k : WpI AP G l (putE E d (.tup [])) H' K) : WpI AP G (⟨d, none, .e (.mapUpd kd m kx vx)⟩ :: l) E H K :=
  wpi_step fun F S fr p f => by
    obtain ⟨H2, t1, t2⟩ := r.take
    have q := hp_take t1 p
    refine ⟨0, _, ⟨S.next, S.heap.put b (some (.map es'))⟩, ?_, G, H', hp_untake t2 (hp_put q), GLe.refl _, k⟩
    simp only [runI, stepE, do_mapUpd, f.ev hm, f.ev hk, f.ev hv, (hp_get q).1, hu]
theorem wpi_next {x b s pos c n H'} (hx : evE E x = some (.ptr b 0)) (r : Rep (pt b (.siter s pos)) (pt b (.siter s (pos + n))) H H') (hd : decodeAt s pos = some (c, n))
    (k : WpI AP G l (putE E d (.tup [.bool true, .int .i64 pos, .int .i32 c])) H' K) : WpI AP G (⟨d, none, .e (.next x)⟩ :: l) E H K :=
  wpi_step fun F S fr p f => by
    obtain ⟨H2, t1, t2⟩ := r.take
    have q := hp_take t1 p
    refine ⟨0, _, ⟨S.next, S.heap.put b (some (.siter s (pos + n)))⟩, ?_, G, H', hp_untake t2 (hp_put q), GLe.refl _, k⟩
    simp only [runI, stepE, do_next, f.ev hx, (hp_get q).1, hd]
theorem wpi_next_end {x b s pos} (hx : evE E x = some (.ptr b 0)) (r : Reads G H b (.siter s pos)) (hd : decodeAt s pos = none)
    (k : WpI AP G l (putE E d (.tup [.bool false])) H K) : WpI AP G (⟨d, none, .e (.next x)⟩ :: l) E H K :=
  wpi_pure (fun F S fr call q f => by simp only [runI, stepE, do_next, f.ev hx, (r.get q).1, hd]) k
/-- What may be appended: so many elements, their cells. -/
inductive Src (G : GB) (H : List As) (es : Nat) : AV → Nat → List AV → Prop where
  | nils : Src G H es .nils 0 []
  | zero {b o cap} : Src G H es (.slc b o 0 cap) 0 []
  | slc {b o m cap op ro c cs} (r : Reads G H b (.cells op ro c)) (h : slice? c o (m * es) = some cs) : Src G H es (.slc b o m cap) m cs
  | str {s : List Nat} (h : es = 1) : Src G H es (.str s) s.length (s.map fun (b : Nat) => AV.int .u8 (b : Int))
theorem slice?_zero : ∀ {c : List AV} {o : Nat} {cs : List AV}, slice? c o 0 = some cs → cs = []
  | c, 0, cs, h => by simp [slice?] at h; exact h
  | [], o + 1, cs, h => by simp [slice?] at h
  | _ :: c, o + 1, cs, h => slice?_zero (c := c) (o := o) h
theorem Src.cells {es v m cs} {S : St} {F : As} (s : Src G H es v m cs) (p : Hp G S F H) : sliceCells S es v = some cs ∧ lenOf v = some m := by
  cases s with
  | nils => exact ⟨rfl, rfl⟩
  | zero => exact ⟨rfl, rfl⟩
  | slc r h =>
    refine ⟨?_, rfl⟩
    cases m with
    | zero => rw [Nat.zero_mul] at h; rw [slice?_zero h]; rfl
    | succ m => simp only [sliceCells, cellsOf, (r.get p).1, h]
  | str h => exact ⟨by simp [sliceCells, h], rfl⟩
theorem wpi_b2s {x v m cs s} (hx : evE E x = some v) (hn : ∀ t, v ≠ .str t) (sr : Src G H 1 v m cs) (hb : bytesOf cs = some s) (k : WpI AP G l (putE E d (.str s)) H K) : WpI AP G (⟨d, none, .d (.b2s x)⟩ :: l) E H K :=
  wpi_pure (fun F S fr call q f => by
    have h1 := f.ev hx
    have h2 := (sr.cells q).1
    cases v <;> first | (exact absurd rfl (hn _)) | (simp only [runI, stepD, do_b2s, h1, h2, hb]; done) | cases sr) k
theorem bytesOf_one {n : Int} (h0 : 0 ≤ n) (h1 : n < 256) : bytesOf [.int .u8 n] = some [n.toNat] := by
  simp [bytesOf, h0, h1]
theorem slice?_all : ∀ (c : List AV), slice? c 0 c.length = some c := fun c => by simp [slice?]
/-- append to a slice that is ours. -/
theorem wpi_append0 {es bytes x y u n cs yv m ds H2} (hx : evE E x = some u) (hy : evE E y = some yv) (t : Take (slA es u n cs) H H2) (sr : Src G H es yv m ds) (hz : (2 * (n + m) + 1024) * bytes ≤ 2 ^ 48) (hz2 : n + m < 2 ^ 62)
    (hm : ds.length = m * es) (k : ∀ v', WpI AP G l (putE E d v') (slA es v' (n + m) (cs ++ ds) :: H2) K) : WpI AP G (⟨d, none, .b (.append es bytes x y)⟩ :: l) E H K :=
  wpi_step fun F S fr p f => by
    obtain ⟨s1, s2⟩ := sr.cells p
    have sn : sliceCells S es .nils = some [] := rfl
    rcases hp_slA (hp_take t p) with ⟨rfl, rfl, rfl, q⟩ | ⟨b, rfl, hl, q⟩
    · by_cases h0 : m = 0
      · subst h0
        have : ds = [] := List.eq_nil_of_length_eq_zero (by simpa using hm)
        subst this
        refine ⟨0, .nils, S, ?_, G, _, hp_slA_nil q, GLe.refl _, k .nils⟩
        simp only [runI, stepB, do_append, f.ev hx, f.ev hy, appendA, s1, s2, sn, lenSl, if_true]
      · refine ⟨0, .slc S.next 0 (0 + m) none, new S (.cells (some es) false ([] ++ ds)), ?_, G, _, hp_slA_pt (by simpa using hm) (hp_new _ q), GLe.refl _, k _⟩
        simp only [runI, stepB, do_append, f.ev hx, f.ev hy, appendA, s1, s2, sn, lenSl, h0, if_false, hz, hz2, and_self, if_true]
    · have hg := (hp_get q).1
      have hs : sliceCells S es (.slc b 0 n none) = some cs := by
        cases n with
        | zero => have : cs = [] := List.eq_nil_of_length_eq_zero (by simpa using hl)
                  subst this; rfl
        | succ n => simp only [sliceCells, cellsOf, hg]; rw [← hl, slice?_all]
      by_cases h0 : m = 0
      · subst h0
        have : ds = [] := List.eq_nil_of_length_eq_zero (by simpa using hm)
        subst this
        refine ⟨0, .slc b 0 n none, S, ?_, G, _, ?_, GLe.refl _, k _⟩
        · simp only [runI, stepB, do_append, f.ev hx, f.ev hy, appendA, s1, s2, lenSl, hs, if_true]
        · rw [List.append_nil]; exact hp_slA_pt hl q
      · refine ⟨0, .slc S.next 0 (n + m) none, ⟨S.next + 1, (S.heap.put b none).put S.next (some (.cells (some es) false (cs ++ ds)))⟩, ?_, G, _, hp_slA_pt (by rw [List.length_append, hl, hm, Nat.add_mul]) (hp_new (.cells (some es) false (cs ++ ds)) (hp_del q)), GLe.refl _, k _⟩
        simp only [runI, stepB, do_append, f.ev hx, f.ev hy, appendA, s1, s2, lenSl, hs, h0, if_false, hz, hz2, and_self, if_true, hg]
theorem wpi_append {es bytes x y u n cs yv m ds H2} (hx : evE E x = some u) (hy : evE E y = some yv) (t : Take (slA es u n cs) H H2) (sr : Src G H es yv m ds) (hz : (2 * (n + m) + 1024) * bytes ≤ 2 ^ 48) (hz2 : n + m < 2 ^ 62)
    (hm : ds.length = m * es) (k : ∀ v', SlForm es v' (n + m) (cs ++ ds) → WpI AP G l (putE E d v') (slA es v' (n + m) (cs ++ ds) :: H2) K) : WpI AP G (⟨d, none, .b (.append es bytes x y)⟩ :: l) E H K :=
  wpi_append0 hx hy t sr hz hz2 hm fun v' => WpI.fact (fun S F p => slA_form .head p) (k v')
/-- append to a slice of known capacity that is full: a new one. -/
theorem wpi_append_full {es bytes x y b o n cap cs yv m ds} (hx : evE E x = some (.slc b o n (some cap))) (hy : evE E y = some yv) (rx : Src G H es (.slc b o n (some cap)) n cs) (sr : Src G H es yv m ds) (hc : cap < n + m) (h0 : 0 < m) (hz : (2 * (n + m) + 1024) * bytes ≤ 2 ^ 48) (hz2 : n + m < 2 ^ 62)
    (hl : cs.length = n * es) (hm : ds.length = m * es) (k : ∀ v', WpI AP G l (putE E d v') (slA es v' (n + m) (cs ++ ds) :: H) K) : WpI AP G (⟨d, none, .b (.append es bytes x y)⟩ :: l) E H K :=
  wpi_step fun F S fr p f => by
    obtain ⟨s1, s2⟩ := sr.cells p
    obtain ⟨r1, r2⟩ := rx.cells p
    refine ⟨0, .slc S.next 0 (n + m) none, new S (.cells (some es) false (cs ++ ds)), ?_, G, _, hp_slA_pt (by rw [List.length_append, hl, hm, Nat.add_mul]) (hp_new _ p), GLe.refl _, k _⟩
    simp only [runI, stepB, do_append, f.ev hx, f.ev hy, appendA, s1, s2, r1, lenSl, show m ≠ 0 by omega, show ¬ n + m ≤ cap by omega, if_false, hz, hz2, and_self, if_true]

theorem bound_nat {m k d : Nat} {kd : IntKind} (h : k ≤ m) : bound m (some (.int kd (k : Int))) d = some k := by
  show (if _ then _ else _) = _
  rw [if_pos ⟨by omega, by omega⟩]; rfl
theorem wpi_clear {es zero x b o len cap op c c' H'} (hx : evE E x = some (.slc b o len cap)) (h0 : 0 < len) (hz : zero.length = es) (r : Rep (pt b (.cells op false c)) (pt b (.cells op false c')) H H') (hs : splice c o (repl zero len) = some c')
    (k : WpI AP G l (putE E d (.tup [])) H' K) : WpI AP G (⟨d, none, .f (.clear es zero x)⟩ :: l) E H K :=
  wpi_step fun F S fr p f => by
    obtain ⟨H2, t1, t2⟩ := r.take
    have q := hp_take t1 p
    refine ⟨0, _, ⟨S.next, S.heap.put b (some (.cells op false c'))⟩, ?_, G, H', hp_untake t2 (hp_put q), GLe.refl _, k⟩
    obtain ⟨m, rfl⟩ : ∃ m, len = m + 1 := ⟨len - 1, by omega⟩
    simp only [runI, stepF, do_clear, f.ev hx, hz, if_true, storeA, (hp_get q).1, hs]
/-- Nothing is cleared. -/
theorem wpi_clear0 {es zero x b o cap} (hx : evE E x = some (.slc b o 0 cap)) (k : WpI AP G l (putE E d (.tup [])) H K) : WpI AP G (⟨d, none, .f (.clear es zero x)⟩ :: l) E H K :=
  wpi_pure (fun F S fr call q f => by simp only [runI, stepF, do_clear, f.ev hx]) k

/-! ### Calls -/
theorem wpi_ct {op f vs R H1 H2} (hr : ∀ F S fr n, Hp G S F H → FrE E fr → runI AP.methods (callA AP n) op fr S = callA AP n f vs S) (c : Ct AP f vs G H1 R) (s : HLe G H (H1 ++ H2))
    (k : ∀ v G' H', GLe G G' → R v G' H' → WpI AP G' l (putE E d v) (H' ++ H2) K) : WpI AP G (⟨d, none, op⟩ :: l) E H K :=
  wpi_step fun F S fr p f => by
    obtain ⟨n, v, S', h1, G', H', h2, h3, h4⟩ := c _ S (hp_frame (s _ _ p))
    exact ⟨n, v, S', by rw [hr F S fr n p f, h1], G', _, hp_unframe h3, h4, k v G' H' h4 h2⟩
theorem wpi_callF {g xs vs R H1 H2} (hx : evEs E xs = some vs) (c : Ct AP g vs G H1 R) (s : HLe G H (H1 ++ H2))
    (k : ∀ v G' H', GLe G G' → R v G' H' → WpI AP G' l (putE E d v) (H' ++ H2) K) : WpI AP G (⟨d, none, .callF g xs⟩ :: l) E H K :=
  wpi_ct (f := g) (vs := vs) (fun F S fr n p f => by simp only [runI, f.evs hx]) c s k
/-- A call that touches nothing of ours. -/
theorem wpi_callP {g xs vs R} (hx : evEs E xs = some vs) (c : Ct AP g vs G [] R) (k : ∀ v G' H', GLe G G' → R v G' H' → WpI AP G' l (putE E d v) (H' ++ H) K) : WpI AP G (⟨d, none, .callF g xs⟩ :: l) E H K :=
  wpi_callF hx c (fun _ _ p => p) k
theorem wpi_callH {g xs vs R} (hx : evEs E xs = some vs) (c : Ct AP g vs G H R) (k : ∀ v G' H', GLe G G' → R v G' H' → WpI AP G' l (putE E d v) H' K) : WpI AP G (⟨d, none, .callF g xs⟩ :: l) E H K :=
  wpi_callF (H2 := []) hx c (by rw [List.append_nil]; exact HLe.refl) (fun v G' H' le r => by rw [List.append_nil]; exact k v G' H' le r)
theorem wpi_callV {x g cap xs vs R H1 H2} (hf : evE E x = some (.fn g cap)) (hx : evEs E xs = some vs) (c : Ct AP g (vs ++ cap) G H1 R) (s : HLe G H (H1 ++ H2))
    (k : ∀ v G' H', GLe G G' → R v G' H' → WpI AP G' l (putE E d v) (H' ++ H2) K) : WpI AP G (⟨d, none, .callV x xs⟩ :: l) E H K :=
  wpi_ct (f := g) (vs := vs ++ cap) (fun F S fr n p f => by simp only [runI, f.ev hf, f.evs hx]) c s k
theorem wpi_invoke {r t b o m g xs vs R H1 H2} (hr : evE E r = some (.iface t (.ptr b o))) (hx : evEs E xs = some vs) (hm : methodOf AP.methods t m = some g) (c : Ct AP g (.ptr b o :: vs) G H1 R) (s : HLe G H (H1 ++ H2))
    (k : ∀ v G' H', GLe G G' → R v G' H' → WpI AP G' l (putE E d v) (H' ++ H2) K) : WpI AP G (⟨d, none, .invoke r m xs⟩ :: l) E H K :=
  wpi_ct (f := g) (vs := .ptr b o :: vs) (fun F S fr n p f => by simp only [runI, f.ev hr, f.evs hx, hm]) c s k
end Go.Sl
