/-
  HOW PLAIN DATA LIES IN MEMORY: slices that are read; nets.
-/
import Derived.Test.YtnhfopfmgodllaaSlOps
noncomputable section
namespace Go.Sl
open Go Go.Ab
set_option linter.unusedSectionVars false
set_option linter.unusedVariables false

theorem slice?_spec : ∀ {c : List AV} {o n : Nat} {cs : List AV}, slice? c o n = some cs → cs = (c.drop o).take n ∧ o + n ≤ c.length ∧ cs.length = n
  | c, 0, n, cs, h => by
    simp only [slice?] at h
    split at h <;> (try (cases h; done))
    cases h
    exact ⟨rfl, by omega, by simp; omega⟩
  | [], o + 1, n, cs, h => by simp [slice?] at h
  | _ :: c, o + 1, n, cs, h => by
    obtain ⟨h1, h2, h3⟩ := slice?_spec (c := c) (o := o) h
    exact ⟨by simpa using h1, by simp; omega, h3⟩
theorem slice?_mk : ∀ {c : List AV} {o n : Nat}, o + n ≤ c.length → slice? c o n = some ((c.drop o).take n)
  | c, 0, n, h => by simp only [slice?]; rw [if_pos (by omega)]; rfl
  | [], o + 1, n, h => by simp at h
  | _ :: c, o + 1, n, h => by simp only [slice?, List.drop_succ_cons]; exact slice?_mk (by simp at h; omega)

abbrev RD := Nat → AObj → Prop
@[reducible] def Gr (G : GB) : RD := fun b o => G b = some o
def RLe (D D' : RD) : Prop := ∀ b o, D b o → D' b o
/-- A slice of nothing. -/
def NilS (v : AV) : Prop := v = .nils ∨ ∃ b o cap, v = .slc b o 0 cap
/-- A slice that is read: so many elements, their cells. -/
def SlR (D : RD) (es : Nat) (v : AV) (n : Nat) (cs : List AV) : Prop :=
  cs.length = n * es ∧ ((NilS v ∧ n = 0) ∨ ∃ b o cap op ro c, v = .slc b o n cap ∧ D b (.cells op ro c) ∧ slice? c o (n * es) = some cs)
theorem SlR.mono {D D' : RD} {es v n cs} (h : SlR D es v n cs) (le : RLe D D') : SlR D' es v n cs := by
  obtain ⟨h1, h2 | ⟨b, o, cap, op, ro, c, k1, k2, k3⟩⟩ := h
  · exact ⟨h1, .inl h2⟩
  · exact ⟨h1, .inr ⟨b, o, cap, op, ro, c, k1, le _ _ k2, k3⟩⟩
theorem SlR.len {D : RD} {es v n cs} (h : SlR D es v n cs) : lenSl v = some n := by
  obtain ⟨h1, ⟨rfl | ⟨_, _, _, rfl⟩, rfl⟩ | ⟨b, o, cap, op, ro, c, rfl, k2, k3⟩⟩ := h <;> rfl
theorem SlR.src {D : RD} {G : GB} {H : List As} {es v n cs} (h : SlR D es v n cs) (hD : RLe D (Reads G H)) : Src G H es v n cs := by
  obtain ⟨h1, ⟨hz, rfl⟩ | ⟨b, o, cap, op, ro, c, rfl, k2, k3⟩⟩ := h
  · have : cs = [] := List.eq_nil_of_length_eq_zero (by simpa using h1)
    subst this
    rcases hz with rfl | ⟨_, _, _, rfl⟩
    · exact .nils
    · exact .zero
  · exact .slc (hD _ _ k2) k3
/-- Where it lies, and what is read there. -/
theorem SlR.at {D : RD} {es v n cs} (h : SlR D es v n cs) {i : Nat} (hi : i < n) : ∃ b o cap op ro c, v = .slc b o n cap ∧ D b (.cells op ro c) ∧ slice? c o (n * es) = some cs := by
  obtain ⟨h1, ⟨hz, rfl⟩ | ⟨b, o, cap, op, ro, c, rfl, k2, k3⟩⟩ := h
  · omega
  · exact ⟨b, o, cap, op, ro, c, rfl, k2, k3⟩
theorem part_one {c cs : List AV} {o L i : Nat} {v : AV} (h : slice? c o L = some cs) (hi : cs[i]? = some v) : Ab.part c (o + i) none = some v := by
  obtain ⟨h1, h2, h3⟩ := slice?_spec h
  show c[o + i]? = some v
  subst h1
  have hlt : i < L := by
    rcases Nat.lt_or_ge i L with x | x
    · exact x
    · rw [List.getElem?_eq_none (by omega)] at hi; cases hi
  rw [List.getElem?_take_of_lt hlt, List.getElem?_drop] at hi
  exact hi
theorem part_some {c cs : List AV} {o L i es : Nat} (h : slice? c o L = some cs) (hi : i + es ≤ L) : Ab.part c (o + i) (some es) = some (.agg ((cs.drop i).take es)) := by
  obtain ⟨h1, h2, h3⟩ := slice?_spec h
  show (match slice? c (o + i) es with | some l => some (AV.agg l) | none => none) = _
  rw [slice?_mk (by omega), h1, List.drop_take, List.take_take, List.drop_drop, Nat.min_eq_left (by omega)]

/-! ### Lists of things, each of so many cells -/
inductive All2 {α β : Type _} (R : α → β → Prop) : List α → List β → Prop where
  | nil : All2 R [] []
  | cons {a b l m} (h : R a b) (t : All2 R l m) : All2 R (a :: l) (b :: m)
theorem All2.length {α β} {R : α → β → Prop} : ∀ {l m}, All2 R l m → l.length = m.length
  | _, _, .nil => rfl
  | _, _, .cons _ t => by simp [t.length]
theorem All2.get {α β} {R : α → β → Prop} : ∀ {l m}, All2 R l m → ∀ i (h : i < l.length) (h' : i < m.length), R l[i] m[i]
  | _, _, .cons h _, 0, _, _ => h
  | _, _, .cons _ t, i + 1, h, h' => t.get i (by simpa using h) (by simpa using h')
theorem All2.mono {α β} {R R' : α → β → Prop} (m : ∀ a b, R a b → R' a b) : ∀ {l k}, All2 R l k → All2 R' l k
  | _, _, .nil => .nil
  | _, _, .cons h t => .cons (m _ _ h) (t.mono m)
theorem All2.append {α β} {R : α → β → Prop} : ∀ {l m l' m'}, All2 R l m → All2 R l' m' → All2 R (l ++ l') (m ++ m')
  | _, _, _, _, .nil, k => k
  | _, _, _, _, .cons h t, k => .cons h (t.append k)

theorem flatten_at : ∀ {cc : List (List AV)} {es : Nat}, (∀ c ∈ cc, c.length = es) → ∀ i (h : i < cc.length), (cc.flatten.drop (i * es)).take es = cc[i]
  | c :: cc, es, hl, 0, h => by
    simp only [Nat.zero_mul, List.drop_zero, List.flatten_cons, List.getElem_cons_zero]
    rw [← hl c (by simp), List.take_left']; rfl
  | c :: cc, es, hl, i + 1, h => by
    have := flatten_at (cc := cc) (es := es) (fun c hc => hl c (by simp [hc])) i (by simpa using h)
    simp only [List.flatten_cons, List.getElem_cons_succ]
    rw [← this, show (i + 1) * es = c.length + i * es by rw [hl c (by simp), Nat.add_mul]; omega, List.drop_append, List.drop_of_length_le (by omega)]
    simp
theorem flatten_len : ∀ {cc : List (List AV)} {es : Nat}, (∀ c ∈ cc, c.length = es) → cc.flatten.length = cc.length * es
  | [], es, _ => by simp
  | c :: cc, es, hl => by
    have := flatten_len (cc := cc) (es := es) (fun c hc => hl c (by simp [hc]))
    simp only [List.flatten_cons, List.length_append, this, hl c (by simp), List.length_cons, Nat.add_mul]; omega

/-- A slice that reads as a list, by how an element's cells read. -/
def SlL {α : Type} (D : RD) (es : Nat) (R : α → List AV → Prop) (v : AV) (l : List α) : Prop :=
  ∃ cc, All2 R l cc ∧ (∀ c ∈ cc, c.length = es) ∧ SlR D es v l.length cc.flatten
theorem SlL.len {α : Type} {D : RD} {es} {R : α → List AV → Prop} {v l} (h : SlL D es R v l) : lenSl v = some l.length := by
  obtain ⟨cc, _, _, h⟩ := h; exact h.len
theorem SlL.mono {α : Type} {D D' : RD} {es} {R R' : α → List AV → Prop} {v l} (h : SlL D es R v l) (le : RLe D D') (m : ∀ a c, R a c → R' a c) : SlL D' es R' v l := by
  obtain ⟨cc, h1, h2, h3⟩ := h
  exact ⟨cc, h1.mono m, h2, h3.mono le⟩
/-- An element. -/
theorem SlL.at {α : Type} {D : RD} {es} {R : α → List AV → Prop} {v l} (h : SlL D es R v l) {i : Nat} (hi : i < l.length) :
    ∃ b o cap op ro c x, v = .slc b o l.length cap ∧ D b (.cells op ro c) ∧ R l[i] x ∧ x.length = es ∧ Ab.part c (o + i * es) (some es) = some (.agg x) ∧ (∀ j y, x[j]? = some y → Ab.part c (o + i * es + j) none = some y) := by
  obtain ⟨cc, h1, h2, h3⟩ := h
  have hc : i < cc.length := by rw [← h1.length]; exact hi
  obtain ⟨b, o, cap, op, ro, c, rfl, k2, k3⟩ := h3.at hi
  have hle : i * es + es ≤ l.length * es := by
    have : (i + 1) * es ≤ l.length * es := Nat.mul_le_mul_right es hi
    rw [Nat.add_mul] at this; omega
  have hx := flatten_at h2 i hc
  refine ⟨b, o, cap, op, ro, c, cc[i], rfl, k2, h1.get i hi hc, h2 _ (List.getElem_mem hc), ?_, fun j y hy => ?_⟩
  · rw [part_some k3 hle, hx]
  · rw [Nat.add_assoc]
    refine part_one k3 ?_
    have hj : j < es := by
      rcases Nat.lt_or_ge j es with x | x
      · exact x
      · rw [List.getElem?_eq_none (by rw [h2 _ (List.getElem_mem hc)]; exact x)] at hy; cases hy
    rw [← hx, List.getElem?_take_of_lt hj, List.getElem?_drop] at hy
    exact hy
theorem SlL.elem {α : Type} {D : RD} {es} {R : α → List AV → Prop} {v l} (h : SlL D es R v l) {i : Nat} (hi : i < l.length) : ∃ x, R l[i] x ∧ x.length = es := by
  obtain ⟨_, _, _, _, _, _, x, _, _, h1, h2, _⟩ := h.at hi; exact ⟨x, h1, h2⟩

theorem Gr.le {G G' : GB} (h : GLe G G') : RLe (Gr G) (Gr G') := h
theorem Gr.reads {G : GB} {H : List As} : RLe (Gr G) (Reads G H) := fun _ _ h => .g h
theorem Reads.more {G : GB} {H : List As} {P : As} : RLe (Reads G H) (Reads G (P :: H)) := fun _ _ h => h.tail
theorem RLe.refl {D : RD} : RLe D D := fun _ _ h => h
theorem RLe.trans {D D' D'' : RD} (h : RLe D D') (k : RLe D' D'') : RLe D D'' := fun _ _ e => k _ _ (h _ _ e)
/-- What is ours can be read. -/
theorem slA_SlR {G : GB} {H H2 : List As} {es v n cs} (t : Take (slA es v n cs) H H2) (f : SlForm es v n cs) : SlR (Reads G H) es v n cs := by
  refine ⟨f.clen, ?_⟩
  rcases f with ⟨rfl, rfl, rfl⟩ | ⟨b, rfl, h2⟩
  · exact .inl ⟨.inl rfl, rfl⟩
  · exact .inr ⟨b, 0, none, _, _, cs, rfl, .s t rfl, by rw [← h2, slice?_all]⟩
theorem pt_SlR {G : GB} {H H2 : List As} {es b n cap op ro cs} (t : Take (pt b (.cells op ro cs)) H H2) (h : cs.length = n * es) : SlR (Reads G H) es (.slc b 0 n cap) n cs :=
  ⟨h, .inr ⟨b, 0, cap, op, ro, cs, rfl, .h t, by rw [← h, slice?_all]⟩⟩
/-- What is ours is laid for good. -/
theorem freezeS_ {G : GB} {S : St} {F : As} {H H2 : List As} {es v n cs} (t : Take (slA es v n cs) H H2) (p : Hp G S F H) : ∃ G', GLe G G' ∧ SlR (Gr G') es v n cs ∧ Hp G' S F H2 := by
  rcases hp_slA (hp_take t p) with ⟨rfl, rfl, rfl, q⟩ | ⟨b, rfl, hl, q⟩
  · exact ⟨G, GLe.refl _, ⟨by simp, .inl ⟨.inl rfl, rfl⟩⟩, q⟩
  · obtain ⟨q2, le⟩ := hp_freeze q
    exact ⟨_, le, ⟨hl, .inr ⟨b, 0, none, some es, false, cs, rfl, by simp [Gr, putG], by rw [← hl, slice?_all]⟩⟩, q2⟩
section
variable {AP : AProg} {G : GB} {E : Env} {H : List As} {Q : AEx → GB → Env → List As → Prop} {K : GB → Env → List As → Prop} {l : List AI}
theorem Wp.freezeS {c} {H2 : List As} {es v n cs} (t : Take (slA es v n cs) H H2) (k : ∀ G', GLe G G' → SlR (Gr G') es v n cs → Wp AP G' c E H2 Q) : Wp AP G c E H Q := fun F S fr p f => by
  obtain ⟨G', le, r, q⟩ := freezeS_ t p
  obtain ⟨n, e, fr', S', h1, G2, E', H', h2, h3, h4, h5⟩ := k G' le r F S fr q f
  exact ⟨n, e, fr', S', h1, G2, E', H', h2, h3, h4, le.trans h5⟩
theorem WpI.freezeS {H2 : List As} {es v n cs} (t : Take (slA es v n cs) H H2) (k : ∀ G', GLe G G' → SlR (Gr G') es v n cs → WpI AP G' l E H2 K) : WpI AP G l E H K := fun F S fr p f => by
  obtain ⟨G', le, r, q⟩ := freezeS_ t p
  obtain ⟨n, fr', S', h1, G2, E', H', h2, h3, h4, h5⟩ := k G' le r F S fr q f
  exact ⟨n, fr', S', h1, G2, E', H', h2, h3, h4, le.trans h5⟩
end
theorem SlL.of {α : Type} {D : RD} {es : Nat} {R : α → List AV → Prop} {f : α → List AV} {v l} (h : SlR D es v l.length (l.flatMap f)) (hR : ∀ a ∈ l, R a (f a)) (hf : ∀ a, (f a).length = es) : SlL D es R v l := by
  refine ⟨l.map f, ?_, ?_, by rw [← List.flatMap_def]; exact h⟩
  · clear h
    induction l with
    | nil => exact .nil
    | cons a l ih => exact .cons (hR a (by simp)) (ih fun b hb => hR b (by simp [hb]))
  · intro c hc
    obtain ⟨a, _, rfl⟩ := List.mem_map.1 hc
    exact hf a

theorem SlR.one {D : RD} {es v n cs} (h : SlR D es v n cs) : One v := by
  obtain ⟨h1, h2⟩ := h
  rcases h2 with ⟨rfl | ⟨_, _, _, rfl⟩, _⟩ | ⟨b, o, cap, op, ro, c, rfl, _⟩ <;> exact ⟨rfl, rfl⟩
theorem SlL.one {α : Type} {D : RD} {es} {R : α → List AV → Prop} {v l} (h : SlL D es R v l) : One v := by
  obtain ⟨_, _, _, h⟩ := h; exact h.one
theorem fill_cons {v : AV} (h : One v) (c : List AV) (o : Nat) (r : List (Nat × Nat × AV)) : fill c ((o, 1, v) :: r) = match splice c o [v] with
    | some c' => fill c' r
    | none => none := by
  simp only [fill, h.1, h.2, List.length_singleton, and_self, if_true]; rfl
theorem One.int {k : IntKind} {n : Int} : One (.int k n) := ⟨rfl, rfl⟩
theorem One.str {s : List Nat} : One (.str s) := ⟨rfl, rfl⟩
theorem One.ptr {b o : Nat} : One (.ptr b o) := ⟨rfl, rfl⟩
theorem One.bool {b : Bool} : One (.bool b) := ⟨rfl, rfl⟩
theorem fill_one {v z : AV} (h : One v) : fill [z] [(0, 1, v)] = some [v] := by
  simp only [fill, h.1, h.2, List.length_singleton, and_self, if_true]; rfl

/-! ### Nets -/
structure Arc where
  place : Int
  n : Int
  deriving DecidableEq, Inhabited, Repr
structure Place where
  name : List Nat
  tokens : Int
  deriving DecidableEq, Inhabited, Repr
structure Trans where
  name : List Nat
  delay : Int
  prio : Int
  ins : List Arc
  nots : List Arc
  outs : List Arc
  deriving DecidableEq, Inhabited, Repr
structure Net where
  places : List Place
  trans : List Trans
  deriving DecidableEq, Inhabited, Repr

def intC (n : Int) (c : List AV) : Prop := c = [.int .i64 n]
def boolC (b : Bool) (c : List AV) : Prop := c = [.bool b]
def arcC (a : Arc) (c : List AV) : Prop := c = [.int .i64 a.place, .int .i64 a.n]
def placeC (p : Place) (c : List AV) : Prop := c = [.str p.name, .int .i64 p.tokens]
abbrev Ints (D : RD) (v : AV) (l : List Int) : Prop := SlL D 1 intC v l
abbrev Arcs (D : RD) (v : AV) (l : List Arc) : Prop := SlL D 2 arcC v l
def transC (D : RD) (t : Trans) (c : List AV) : Prop := ∃ i n o, c = [.str t.name, .int .i64 t.delay, .int .i64 t.prio, i, n, o] ∧ Arcs D i t.ins ∧ Arcs D n t.nots ∧ Arcs D o t.outs
def netR (D : RD) (v : AV) (n : Net) : Prop := ∃ p t, v = .agg [p, t] ∧ SlL D 2 placeC p n.places ∧ SlL D 6 (transC D) t n.trans
theorem transC.mono {D D' : RD} (le : RLe D D') {t c} (h : transC D t c) : transC D' t c := by
  obtain ⟨i, n, o, h1, h2, h3, h4⟩ := h
  exact ⟨i, n, o, h1, h2.mono le fun _ _ x => x, h3.mono le fun _ _ x => x, h4.mono le fun _ _ x => x⟩
theorem netR.mono {D D' : RD} (le : RLe D D') {v n} (h : netR D v n) : netR D' v n := by
  obtain ⟨p, t, h1, h2, h3⟩ := h
  exact ⟨p, t, h1, h2.mono le fun _ _ x => x, h3.mono le fun _ _ => transC.mono le⟩
end Go.Sl
