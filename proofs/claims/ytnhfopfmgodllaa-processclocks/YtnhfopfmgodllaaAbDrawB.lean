/-
  REGIONS THAT DRAW THEIR ORDER, SECOND PART: what is looked at beforehand; a block that the canonical order made earlier.
-/
import Derived.Test.YtnhfopfmgodllaaAbDrawA
noncomputable section
namespace Go.Ab
open Go
set_option linter.unusedSectionVars false
variable [Inhabited Unknowns]

/-! ### Blocks that are not there yet -/
mutual
theorem VR.both {μ1 μ2 μ : Mu} (H : ∀ b L, μ1 b = some L → μ2 b ≠ none → μ b = some L) : ∀ {v : AV} {u u' : Value}, VR μ1 v u → VR μ2 v u' → VR μ v u
  | _, _, _, .bool b, _ => .bool b
  | _, _, _, .int k n, _ => .int k n
  | _, _, _, .sym h, _ => .sym h
  | _, _, _, .str h, _ => .str h
  | _, _, _, .nilp, _ => .nilp
  | _, _, _, .ptr h, h' => by cases h' with | ptr k => exact .ptr (H _ _ h (by simp [k]))
  | _, _, _, .nils, _ => .nils
  | _, _, _, .slcK h hc, h' => by cases h' with | slcK k _ => exact .slcK (H _ _ h (by simp [k])) hc
  | _, _, _, .slcU h hc ho hs, h' => by cases h' with | slcU k _ _ _ => exact .slcU (H _ _ h (by simp [k])) hc ho hs
  | _, _, _, .nilm, _ => .nilm
  | _, _, _, .map h, h' => by cases h' with | map k => exact .map (H _ _ h (by simp [k]))
  | _, _, _, .fn h, h' => by cases h' with | fn k => exact .fn (VRs.both H h k)
  | _, _, _, .nilFn, _ => .nilFn
  | _, _, _, .iface h, h' => by cases h' with | iface k => exact .iface (VR.both H h k)
  | _, _, _, .nilIface, _ => .nilIface
  | _, _, _, .agg h hs, h' => by cases h' with | agg k _ => exact .agg (VRs.both H h k) hs
  | _, _, _, .tup h, h' => by cases h' with | tup k => exact .tup (VRs.both H h k)
theorem VRs.both {μ1 μ2 μ : Mu} (H : ∀ b L, μ1 b = some L → μ2 b ≠ none → μ b = some L) : ∀ {l : List AV} {m m' : List Value}, VRs μ1 l m → VRs μ2 l m' → VRs μ l m
  | _, _, _, .nil, _ => .nil
  | _, _, _, .cons h t, h' => by cases h' with | cons k kt => exact .cons (VR.both H h k) (VRs.both H t kt)
end
theorem EsR.both {μ1 μ2 μ : Mu} (H : ∀ b L, μ1 b = some L → μ2 b ≠ none → μ b = some L) : ∀ {es : List (AV × AV)} {fs fs' : List MapEntry}, EsR μ1 es fs → EsR μ2 es fs' → EsR μ es fs
  | _, _, _, .nil, _ => .nil
  | _, _, _, .cons hk hv t, h' => by cases h' with | cons hk' hv' t' => exact .cons (hk.both H hk') (hv.both H hv') (t.both H t')
theorem ObjR.both {μ1 μ2 μ : Mu} (H : ∀ b L, μ1 b = some L → μ2 b ≠ none → μ b = some L) {L L' : Loc} {o : AObj} {O O' : Obj} (h : ObjR μ1 L o O) (k : ObjR μ2 L' o O') : ObjR μ L o O := by
  cases h with
  | cells hn hl hc hs hf hk ho => cases k with | cells _ _ hc' _ _ _ _ => exact .cells hn hl (hc.both H hc') hs hf hk ho
  | map h h0 => cases k with | map h' _ => exact .map (h.both H h') h0
  | siter h h0 => exact .siter h h0

theorem Rel.ext {μ : Mu} {S S' : St} {w : World} (h : Rel μ S w) (he : Ext S S') (hf : Fresh S') : Rel μ S' w := by
  have back : ∀ b L o, μ b = some L → S'.heap.get b = some o → S.heap.get b = some o := fun b L o hL e => by rw [← he.2 b (h.dom _ _ hL).1]; exact e
  exact ⟨fun b L e => ⟨Nat.lt_of_lt_of_le (h.dom _ _ e).1 he.1, (h.dom _ _ e).2⟩, fun b o L e hL => h.obj b o L (back _ _ _ hL e) hL,
    fun b b' o o' L L' e e' hL hL' x y => h.inj b b' o o' L L' (back _ _ _ hL e) (back _ _ _ hL' e') hL hL' x y, hf⟩
theorem Stp.ext {μ0 μ : Mu} {S0 S S' : St} {w0 w : World} (h : Stp μ0 S0 w0 μ S w) (hR : Rel μ S w) (he : Ext S S') : Stp μ0 S0 w0 μ S' w :=
  ⟨h.le, h.new, Nat.le_trans h.next he.1, fun b e hb => (by rw [he.2 b (Nat.lt_of_lt_of_le hb h.next), h.ghost b e hb]), h.size, h.keep,
    fun k ⟨b, o, L, e, r, m, x⟩ => h.held k ⟨b, o, L, by rw [← he.2 b (hR.dom _ _ m).1]; exact e, r, m, x⟩, h.os, h.tape, h.output⟩

theorem Names.ren {mk : Nat → AV} (h : Names mk) {μ μ' : Mu} {b b' : Nat} {u : Value} (hv : VR μ (mk b) u) (hb : ∀ L, μ b = some L → μ' b' = some L) : VR μ' (mk b') u := by
  cases h with
  | ptr => cases hv with | ptr h => exact .ptr (hb _ h)
  | slc n c => cases hv with
    | slcK h hc => exact .slcK (hb _ h) hc
    | slcU h hc ho hs => exact .slcU (hb _ h) hc ho hs
  | map => cases hv with | map h => exact .map (hb _ h)

variable {P : Program} {gl : List Nat} {names : List String} {methods : List (Nat × Nat × Nat)} {call : Nat → List AV → St → Option (AV × St)} {o : Oper} {op : AOp}

theorem came_alloc (hk : chkOp P gl names o op = true) (hc : op.cls = 2) {μ : Mu} {S : St} {w : World} {fr : Fr} {a : Act} {N : Nat} {v : AV} {S' : St} (hg : GR gl μ) (hR : Rel μ S w) (hf : FrR μ N fr a.tmps) (h : runI methods call op fr S = some (v, S')) :
    Came μ S w ((execOp a.eval o).run P w) v S' := by
  cases op with
  | a p => exact simA hk hg hR hf h
  | b p => exact simB hk hg hR hf h
  | c p => exact simC hk hg hR hf h
  | d p => exact simD hk hg hR hf h
  | e p => exact simE hk hg hR hf h
  | f p => exact simF hk hg hR hf h
  | callF => simp [AOp.cls] at hc
  | callV => simp [AOp.cls] at hc
  | invoke => simp [AOp.cls] at hc

/-- A block that the canonical order made earlier is made now. -/
theorem alloc_late (hk : chkOp P gl names o op = true) (hc : op.cls = 2) {μ : Mu} {S : St} {w : World} {fr : Fr} {a : Act} {N : Nat} {obj : AObj} {mk : Nat → AV} (hmk : Names mk) (h : ∀ S2, runI methods call op fr S2 = some (mk S2.next, new S2 obj))
    (hg : GR gl μ) (hR : Rel μ S w) (hf : FrR μ N fr a.tmps) {b : Nat} (hb : μ b = none) (hlt : b < S.next) (hget : S.heap.get b = some obj) {μ0 : Mu} {S0 : St} {w0 : World} (hs : Stp μ0 S0 w0 μ S w) (hb0 : S0.next ≤ b) :
    ∃ μ2 w1 u, ((execOp a.eval o).run P w = .ok (.value u) w1 ∨ (execOp a.eval o).run P w = .ok .skip w1 ∧ u = undef) ∧ VR μ2 (mk b) u ∧ Rel μ2 S w1 ∧ Stp μ0 S0 w0 μ2 S w1 ∧ μ.le μ2 ∧ ∀ c, c ≠ b → μ2 c = μ c := by
  obtain ⟨μ1, w1, u, hr, hv, hR1, hs1⟩ := came_alloc hk hc hg hR hf (h S)
  have hRp : Rel μ ⟨S.next + 1, S.heap⟩ w := ⟨fun b L e => ⟨Nat.lt_succ_of_lt (hR.dom b L e).1, (hR.dom b L e).2⟩, hR.obj, hR.inj, fun b o e => Nat.lt_succ_of_lt (hR.fresh b o e)⟩
  obtain ⟨μ', w', u', _, hv', hR', hs'⟩ := came_alloc hk hc hg hRp hf (h ⟨S.next + 1, S.heap⟩)
  have only : ∀ c L, μ1 c = some L → c ≠ S.next → μ c = some L := fun c L e hne => by
    cases x : μ c with
    | some M => rw [hs1.le c M x] at e; exact e
    | none =>
      have h1 := hs1.new c L e x
      have h2 := (hR1.dom c L e).1
      simp [new] at h2; omega
  have only' : μ' S.next = none := by
    cases x : μ' S.next with
    | none => rfl
    | some L => have := hs'.new _ L x hR.noNext; simp at this; omega
  have keepO : ∀ c, c ≠ b → μ1 c = μ c ∨ c = S.next := fun c hne => by
    by_cases e : c = S.next
    · exact .inr e
    · left
      cases x : μ1 c with
      | some L => rw [only c L x e]
      | none => cases y : μ c with
        | none => rfl
        | some L => rw [hs1.le c L y] at x; cases x
  have hgot : ∃ L, μ1 S.next = some L := by
    cases hmk with
    | ptr => cases hv with | ptr hh => exact ⟨_, hh⟩
    | slc n c => cases hv with
      | slcK hh _ => exact ⟨_, hh⟩
      | slcU hh _ _ _ => exact ⟨_, hh⟩
    | map => cases hv with | map h => exact ⟨_, h⟩
  obtain ⟨L, hL⟩ := hgot
  have hgot' : ∃ L, μ' (S.next + 1) = some L := by
    cases hmk with
    | ptr => cases hv' with | ptr h => exact ⟨_, h⟩
    | slc n c => cases hv' with
      | slcK hh _ => exact ⟨_, hh⟩
      | slcU hh _ _ _ => exact ⟨_, hh⟩
    | map => cases hv' with | map h => exact ⟨_, h⟩
  obtain ⟨L', hL'⟩ := hgot'
  have hle2 : μ.le (μ.add b L) := Mu.add_le L hb
  have H1 : ∀ c M, μ1 c = some M → μ' c ≠ none → μ c = some M := fun c M e hne => only c M e fun x => by rw [x] at hne; exact hne only'
  have H0 : ∀ c M, μ1 c = some M → μ c ≠ none → μ c = some M := fun c M e hne => only c M e fun x => by rw [x] at hne; exact hne hR.noNext
  have old : ∀ c M, c ≠ b → (μ.add b L) c = some M → μ c = some M := fun c M hne e => by simpa [Mu.add, hne] using e
  have neNext : ∀ c M, μ c = some M → c ≠ S.next := fun c M e x => by rw [x, hR.noNext] at e; cases e
  refine ⟨μ.add b L, w1, u, hr, hmk.ren hv (fun M e => by rw [hL] at e; cases e; exact Mu.add_same _ _ _), ?_, ?_, hle2, fun c hne => by simp [Mu.add, hne]⟩
  · refine ⟨fun c M e => ?_, fun c o' M e e' => ?_, fun c1 c2 o1 o2 M1 M2 e1 e2 f1 f2 heq hne => ?_, hR.fresh⟩
    · by_cases x : c = b
      · subst x; rw [Mu.add_same] at e; cases e
        exact ⟨hlt, (hR1.dom _ _ hL).2⟩
      · exact ⟨(hR.dom _ _ (old _ _ x e)).1, (hR1.dom _ _ (hs1.le _ _ (old _ _ x e))).2⟩
    · by_cases x : c = b
      · subst x; rw [Mu.add_same] at e'; cases e'
        rw [hget] at e; cases e
        obtain ⟨O, g1, g2⟩ := hR1.obj S.next obj L (by rw [new_get, if_pos rfl]) hL
        obtain ⟨O', _, g2'⟩ := hR'.obj (S.next + 1) obj L' (by rw [new_get, if_pos rfl]) hL'
        exact ⟨O, g1, (g2.both H1 g2').mono hle2⟩
      · have hM := old _ _ x e'
        obtain ⟨O, g1, g2⟩ := hR1.obj c o' M (by rw [new_get, if_neg (neNext _ _ hM)]; exact e) (hs1.le _ _ hM)
        obtain ⟨O', _, g2'⟩ := hR.obj c o' M e hM
        exact ⟨O, g1, (g2.both H0 g2').mono hle2⟩
    · have place : ∀ c o' M, S.heap.get c = some o' → (μ.add b L) c = some M → ∃ c', μ1 c' = some M ∧ (new S obj).heap.get c' = some o' ∧ ((c = b ∧ c' = S.next) ∨ (c ≠ b ∧ c' = c ∧ c ≠ S.next)) := fun c o' M e f => by
        by_cases x : c = b
        · subst x; rw [Mu.add_same] at f; cases f; rw [hget] at e; cases e
          exact ⟨S.next, hL, by rw [new_get, if_pos rfl], .inl ⟨rfl, rfl⟩⟩
        · have hM := old _ _ x f
          exact ⟨c, hs1.le _ _ hM, by rw [new_get, if_neg (neNext _ _ hM)]; exact e, .inr ⟨x, rfl, neNext _ _ hM⟩⟩
      obtain ⟨d1, p1, p2, p3⟩ := place c1 o1 M1 e1 f1
      obtain ⟨d2, r1, r2, r3⟩ := place c2 o2 M2 e2 f2
      exact hR1.inj d1 d2 o1 o2 M1 M2 p2 r2 p1 r1 heq (by omega)
  · have heldUp : ∀ k, Held (μ.add b L) S k → Held μ1 (new S obj) k := fun k ⟨c, o', M, e, r, m, x⟩ => by
      by_cases y : c = b
      · subst y; rw [Mu.add_same] at m; cases m; rw [hget] at e; cases e
        exact ⟨S.next, obj, L, by rw [new_get, if_pos rfl], r, hL, x⟩
      · have hM := old _ _ y m
        exact ⟨c, o', M, by rw [new_get, if_neg (neNext _ _ hM)]; exact e, r, hs1.le _ _ hM, x⟩
    refine ⟨Mu.le_trans hs.le hle2, fun c M e e0 => ?_, hs.next, hs.ghost, Nat.le_trans hs.size hs1.size, fun k hk hn => ?_, fun k hk => ?_, hs1.os.trans hs.os, hs1.tape.trans hs.tape, hs1.output.trans hs.output⟩
    · by_cases x : c = b
      · subst x; exact hb0
      · exact hs.new c M (old _ _ x e) e0
    · rw [hs1.keep k (Nat.lt_of_lt_of_le hk hs.size) (fun hh => (hs.held k hh).elim (fun g => by omega) hn), hs.keep k hk hn]
    · rcases hs1.held k (heldUp k hk) with g | g
      · exact .inl (Nat.le_trans hs.size g)
      · exact hs.held k g

/-! ### What is looked at beforehand -/
structure Ent where
  p : Nat
  i : Nat
  ai : AI

def ents : Nat → List (Option Nat) → List AI → List Ent
  | p, some i :: os, a :: l => ⟨p, i, a⟩ :: ents (p + 1) os l
  | p, none :: os, _ :: l => ents (p + 1) os l
  | _, [], _ => []
  | _, _ :: _, [] => []

theorem mem_ents : ∀ (os : List (Option Nat)) (l : List AI) (p : Nat) (e : Ent), e ∈ ents p os l ↔ p ≤ e.p ∧ os[e.p - p]? = some (some e.i) ∧ l[e.p - p]? = some e.ai
  | [], l, p, e => by simp [ents]
  | _ :: _, [], p, e => by simp [ents]
  | some i :: os, a :: l, p, e => by
    simp only [ents, List.mem_cons, mem_ents os l (p + 1) e]
    constructor
    · rintro (rfl | ⟨h1, h2, h3⟩)
      · simp
      · refine ⟨by omega, ?_, ?_⟩
        · rw [show e.p - p = (e.p - (p + 1)) + 1 by omega]; simpa using h2
        · rw [show e.p - p = (e.p - (p + 1)) + 1 by omega]; simpa using h3
    · rintro ⟨h1, h2, h3⟩
      rcases Nat.eq_or_lt_of_le h1 with h | h
      · left
        rw [← h] at h2 h3
        simp at h2 h3
        cases e; simp_all
      · right
        rw [show e.p - p = (e.p - (p + 1)) + 1 by omega] at h2 h3
        exact ⟨by omega, by simpa using h2, by simpa using h3⟩
  | none :: os, a :: l, p, e => by
    simp only [ents, mem_ents os l (p + 1) e]
    constructor
    · rintro ⟨h1, h2, h3⟩
      refine ⟨by omega, ?_, ?_⟩
      · rw [show e.p - p = (e.p - (p + 1)) + 1 by omega]; simpa using h2
      · rw [show e.p - p = (e.p - (p + 1)) + 1 by omega]; simpa using h3
    · rintro ⟨h1, h2, h3⟩
      rcases Nat.eq_or_lt_of_le h1 with h | h
      · rw [← h] at h2; simp at h2
      · rw [show e.p - p = (e.p - (p + 1)) + 1 by omega] at h2 h3
        exact ⟨by omega, by simpa using h2, by simpa using h3⟩

/-- Which operations one waits for. -/
def preds (ops : Array Oper) (i : Nat) : List Nat :=
  match ops[i]? with
  | some o => (o.after.toList.filter (Region.binds .any)).map (·.on)
  | none => []
def ancOf (A : Tr Nat) : List Nat → Nat
  | [] => 0
  | j :: l => (1 <<< j) ||| ((A.get j).getD 0 ||| ancOf A l)
def ancsOf (ops : Array Oper) : List Ent → Tr Nat → Tr Nat
  | [], A => A
  | e :: es, A => ancsOf ops es (A.put e.i (some (ancOf A (preds ops e.i))))
def isAnc (A : Tr Nat) (j i : Nat) : Bool := ((A.get i).getD 0).testBit j

def Closed (ops : Array Oper) (X : Nat → Bool) : Prop := ∀ i, X i = true → ∀ j ∈ preds ops i, X j = true

def SoundA (ops : Array Oper) (A : Tr Nat) : Prop := ∀ i m, A.get i = some m → ∀ X, Closed ops X → (∀ j ∈ preds ops i, X j = true) → ∀ j, m.testBit j = true → X j = true

theorem ancOf_bit (A : Tr Nat) : ∀ (l : List Nat) (j : Nat), (ancOf A l).testBit j = true → ∃ k ∈ l, j = k ∨ ((A.get k).getD 0).testBit j = true
  | [], j, h => by simp [ancOf] at h
  | k :: l, j, h => by
    simp only [ancOf, Nat.testBit_or, Bool.or_eq_true] at h
    rcases h with h | h | h
    · rw [Nat.one_shiftLeft, Nat.testBit_two_pow] at h
      exact ⟨k, by simp, .inl (by simpa using (of_decide_eq_true h).symm)⟩
    · exact ⟨k, by simp, .inr h⟩
    · obtain ⟨k', h1, h2⟩ := ancOf_bit A l j h
      exact ⟨k', by simp [h1], h2⟩

theorem ancsOf_sound (ops : Array Oper) : ∀ (es : List Ent) (A : Tr Nat), SoundA ops A → SoundA ops (ancsOf ops es A)
  | [], _, h => h
  | e :: es, A, h => ancsOf_sound ops es _ fun i m hm X hX hp j hj => by
    rw [Tr.get_put] at hm
    split at hm
    · rename_i x; subst x
      cases hm
      obtain ⟨k, hk, hh⟩ := ancOf_bit A _ j hj
      rcases hh with rfl | hh
      · exact hp _ hk
      · cases x : A.get k with
        | none => rw [x] at hh; simp at hh
        | some m => rw [x] at hh; exact h k m x X hX (hX k (hp k hk)) j hh
    · exact h i m hm X hX hp j hj

theorem isAnc_listed {ops : Array Oper} {A : Tr Nat} (hA : SoundA ops A) {X : Nat → Bool} (hX : Closed ops X) {i j : Nat} (hp : ∀ k ∈ preds ops i, X k = true) (h : isAnc A j i = true) : X j = true := by
  unfold isAnc at h
  cases x : A.get i with
  | none => rw [x] at h; simp at h
  | some m => rw [x] at h; exact hA i m x X hX hp j h

def X.same : X → X → Bool
  | .t a, .t b => a == b
  | .c a, .c b => AV.same a b
  | _, _ => false
theorem X.same_eq : ∀ {a b : X}, X.same a b = true → a = b
  | .t a, .t b, h => by simp [X.same] at h; rw [h]
  | .c a, .c b, h => by simp only [X.same] at h; rw [AV.same_eq h]
  | .t _, .c _, h => by simp [X.same] at h
  | .c _, .t _, h => by simp [X.same] at h

/-- Right behind an operation of the chain a load is looked at again. -/
def hasRe (d : Nat) (sz : Option Nat) (x : X) (g : Option (Nat × Bool)) : List (Option Nat) → List AI → Bool
  | none :: os, a :: l => (match a.op with
    | .f (.recheck d' sz' x') => d == d' && sz == sz' && X.same x x' && g == a.g && a.dst == none
    | _ => false) || hasRe d sz x g os l
  | _, _ => false
def reOk : List (Option Nat) → List AI → Bool
  | none :: os, a :: l => (match a.op with
    | .f (.recheck _ _ _) => a.dst == none
    | _ => false) && reOk os l
  | some _ :: os, _ :: l => reOk os l
  | [], [] => true
  | [], _ :: _ => false
  | _ :: _, [] => false

def pairOk (A : Tr Nat) (a b : Ent) : Bool :=
  match b.ai.dst with
  | none => true
  | some t => a.ai.dst != some t && (!(a.ai.uses.contains t) || (Nat.blt b.p a.p && isAnc A b.i a.i) || (Nat.blt a.p b.p && isAnc A a.i b.i))
def chainOk (A : Tr Nat) (a b : Ent) : Bool := a.ai.op.cls != 3 || !(Nat.blt a.p b.p) || isAnc A a.i b.i
def readOk (A : Tr Nat) (ord : List (Option Nat)) (l : List AI) (es : List Ent) (a b : Ent) : Bool :=
  a.ai.op.cls != 1 || b.ai.op.cls != 3 || !(Nat.blt a.p b.p) || isAnc A a.i b.i ||
  match a.ai.op, a.ai.dst with
  | .a (.load sz x), some d => hasRe d sz x a.ai.g (ord.drop (b.p + 1)) (l.drop (b.p + 1)) && es.all (fun c => Nat.blt c.p a.p || Nat.blt b.p c.p || match c.ai.dst with | some t => !(a.ai.uses.contains t) | none => true)
  | _, _ => false

def chkDraw (P : Program) (gl : List Nat) (names : List String) (ops : Array Oper) (N : Nat) (ord : List (Option Nat)) (l : List AI) : Bool :=
  let es := ents 0 ord l
  let A := ancsOf ops es .nil
  (List.range ops.size).all (fun i => es.any fun e => e.i == i) && reOk ord l &&
  es.all fun a => (match ops[a.i]? with | some o => chkI P gl names ops N o a.ai | none => false) && a.ai.op.cls != 4 && (preds ops a.i).all (fun j => es.any fun b => b.i == j && Nat.blt b.p a.p) &&
    es.all fun b => a.p == b.p || (a.i != b.i && pairOk A a b && chainOk A a b && readOk A ord l es a b)

/-- What the check says. -/
structure Facts (P : Program) (gl : List Nat) (names : List String) (ops : Array Oper) (N : Nat) (ord : List (Option Nat)) (l : List AI) (es : List Ent) (A : Tr Nat) : Prop where
  mem : ∀ e, e ∈ es ↔ ord[e.p]? = some (some e.i) ∧ l[e.p]? = some e.ai
  all : ∀ i, i < ops.size → ∃ e ∈ es, e.i = i
  len : ord.length = l.length
  re : ∀ (p : Nat) (a : AI), ord[p]? = some none → l[p]? = some a → ∃ d sz x, a.op = .f (.recheck d sz x) ∧ a.dst = none
  op : ∀ e ∈ es, ∃ o, ops[e.i]? = some o ∧ chkI P gl names ops N o e.ai = true
  cls : ∀ e ∈ es, e.ai.op.cls ≠ 4
  pre : ∀ e ∈ es, ∀ j ∈ preds ops e.i, ∃ b ∈ es, b.i = j ∧ b.p < e.p
  ne : ∀ a ∈ es, ∀ b ∈ es, a.p ≠ b.p → a.i ≠ b.i
  dst : ∀ a ∈ es, ∀ b ∈ es, a.p ≠ b.p → ∀ t, b.ai.dst = some t → a.ai.dst ≠ some t
  use : ∀ a ∈ es, ∀ b ∈ es, a.p ≠ b.p → ∀ t, b.ai.dst = some t → t ∈ a.ai.uses → (b.p < a.p ∧ isAnc A b.i a.i = true) ∨ (a.p < b.p ∧ isAnc A a.i b.i = true)
  chain : ∀ a ∈ es, ∀ b ∈ es, a.ai.op.cls = 3 → a.p < b.p → isAnc A a.i b.i = true
  read : ∀ a ∈ es, ∀ b ∈ es, a.ai.op.cls = 1 → b.ai.op.cls = 3 → a.p < b.p → isAnc A a.i b.i = true ∨ ∃ sz x d, a.ai.op = .a (.load sz x) ∧ a.ai.dst = some d ∧
    (∃ (k : Nat) (c : AI), (∀ j, j ≤ k → ord[b.p + 1 + j]? = some none) ∧ l[b.p + 1 + k]? = some c ∧ c.op = .f (.recheck d sz x) ∧ c.g = a.ai.g) ∧
    ∀ c ∈ es, a.p ≤ c.p → c.p ≤ b.p → ∀ t, c.ai.dst = some t → t ∉ a.ai.uses
  sound : SoundA ops A

theorem reOk_spec : ∀ (ord : List (Option Nat)) (l : List AI), reOk ord l = true → ord.length = l.length ∧ ∀ (p : Nat) (a : AI), ord[p]? = some none → l[p]? = some a → ∃ d sz x, a.op = .f (.recheck d sz x) ∧ a.dst = none
  | [], [], _ => ⟨rfl, by simp⟩
  | [], _ :: _, h => by simp [reOk] at h
  | _ :: _, [], h => by simp [reOk] at h
  | none :: os, a :: l, h => by
    simp only [reOk, Bool.and_eq_true] at h
    obtain ⟨h1, h2⟩ := reOk_spec os l h.2
    refine ⟨by simp [h1], fun p b e1 e2 => ?_⟩
    cases p with
    | zero =>
      simp at e2; subst e2
      have := h.1
      split at this
      · rename_i heq; exact ⟨_, _, _, heq, by simpa using this⟩
      · cases this
    | succ p => exact h2 p b (by simpa using e1) (by simpa using e2)
  | some i :: os, a :: l, h => by
    simp only [reOk] at h
    obtain ⟨h1, h2⟩ := reOk_spec os l h
    refine ⟨by simp [h1], fun p b e1 e2 => ?_⟩
    cases p with
    | zero => simp at e1
    | succ p => exact h2 p b (by simpa using e1) (by simpa using e2)

theorem hasRe_spec {d : Nat} {sz : Option Nat} {x : X} {g : Option (Nat × Bool)} : ∀ (ord : List (Option Nat)) (l : List AI), hasRe d sz x g ord l = true → ∃ (k : Nat) (c : AI), (∀ j, j ≤ k → ord[j]? = some none) ∧ l[k]? = some c ∧ c.op = .f (.recheck d sz x) ∧ c.g = g
  | none :: os, a :: l, h => by
    simp only [hasRe, Bool.or_eq_true] at h
    rcases h with h | h
    · split at h
      · rename_i heq
        simp only [Bool.and_eq_true, beq_iff_eq] at h
        obtain ⟨⟨⟨⟨rfl, rfl⟩, h3⟩, h4⟩, _⟩ := h
        have := X.same_eq h3; subst this
        exact ⟨0, a, fun j hj => by obtain rfl : j = 0 := by omega
                                    rfl, rfl, heq, h4.symm⟩
      · cases h
    · obtain ⟨k, c, h1, h2, h3⟩ := hasRe_spec os l h
      refine ⟨k + 1, c, fun j hj => ?_, by simpa using h2, h3⟩
      cases j with
      | zero => rfl
      | succ j => simpa using h1 j (by omega)
  | [], _, h => by simp [hasRe] at h
  | none :: _, [], h => by simp [hasRe] at h
  | some _ :: _, _, h => by simp [hasRe] at h

theorem chkDraw_facts {ops : Array Oper} {N : Nat} {ord : List (Option Nat)} {l : List AI} (h : chkDraw P gl names ops N ord l = true) : Facts P gl names ops N ord l (ents 0 ord l) (ancsOf ops (ents 0 ord l) .nil) := by
  have hmem := fun e => mem_ents ord l 0 e
  simp only [Nat.zero_le, true_and, Nat.sub_zero] at hmem
  unfold chkDraw at h
  dsimp only at h
  generalize hes : ents 0 ord l = es at h hmem ⊢
  generalize hAA : ancsOf ops es .nil = A at h ⊢
  have hA : SoundA ops A := by
    rw [← hAA]; exact ancsOf_sound ops _ _ fun i m hm => by simp at hm
  simp only [Bool.and_eq_true, List.all_eq_true, List.mem_range, List.any_eq_true, beq_iff_eq, Bool.or_eq_true, bne_iff_ne, ne_eq, Nat.blt_eq] at h
  obtain ⟨⟨h1, h2⟩, h3⟩ := h
  obtain ⟨r1, r2⟩ := reOk_spec ord l h2
  have pr : ∀ a ∈ es, ∀ b ∈ es, a.p ≠ b.p → ((a.i ≠ b.i ∧ pairOk A a b = true) ∧ chainOk A a b = true) ∧ readOk A ord l es a b = true := fun a ha b hb hne => ((h3 a ha).2 b hb).resolve_left hne
  refine ⟨hmem, fun i hi => h1 i hi, r1, r2, fun e he => ?_, fun e he => (h3 e he).1.1.2, fun e he j hj => ?_, fun a ha b hb hne => (pr a ha b hb hne).1.1.1, fun a ha b hb hne t ht => ?_, fun a ha b hb hne t ht hu => ?_, fun a ha b hb hc hlt => ?_, fun a ha b hb hc hc' hlt => ?_, hA⟩
  · have := (h3 e he).1.1.1
    split at this
    · rename_i o ho; exact ⟨o, ho, this⟩
    · cases this
  · obtain ⟨b, hb, h⟩ := (h3 e he).1.2 j hj
    exact ⟨b, hb, h.1, h.2⟩
  · have := (pr a ha b hb hne).1.1.2
    simp only [pairOk, ht, Bool.and_eq_true, bne_iff_ne, ne_eq] at this
    exact this.1
  · have := (pr a ha b hb hne).1.1.2
    simp only [pairOk, ht, Bool.and_eq_true, Bool.or_eq_true, Bool.not_eq_true', Nat.blt_eq] at this
    rcases this.2 with (h | h) | h
    · rw [List.contains_eq_mem] at h; simp [hu] at h
    · exact .inl h
    · exact .inr h
  · have := (pr a ha b hb (by omega)).1.2
    simp only [chainOk, Bool.or_eq_true, bne_iff_ne, ne_eq, Bool.not_eq_true'] at this
    rcases this with (h | h) | h
    · exact absurd hc h
    · have : Nat.blt a.p b.p = true := by rw [Nat.blt_eq]; exact hlt
      rw [this] at h; cases h
    · exact h
  · have := (pr a ha b hb (by omega)).2
    simp only [readOk, Bool.or_eq_true, bne_iff_ne, ne_eq, Bool.not_eq_true'] at this
    rcases this with (((h | h) | h) | h) | h
    · exact absurd hc h
    · exact absurd hc' h
    · have : Nat.blt a.p b.p = true := by rw [Nat.blt_eq]; exact hlt
      rw [this] at h; cases h
    · exact .inl h
    · right
      split at h
      · rename_i sz x d ho hd
        simp only [Bool.and_eq_true, List.all_eq_true, Bool.or_eq_true, Nat.blt_eq] at h
        obtain ⟨k, c, k1, k2, k3⟩ := hasRe_spec _ _ h.1
        refine ⟨sz, x, d, ho, hd, ⟨k, c, fun j hj => by simpa using k1 j hj, by simpa using k2, k3⟩, fun c hc l1 l2 t ht hu => ?_⟩
        rcases h.2 c hc with (g | g) | g
        · omega
        · omega
        · rw [ht] at g; simp [hu] at g
      · cases h
end Go.Ab
