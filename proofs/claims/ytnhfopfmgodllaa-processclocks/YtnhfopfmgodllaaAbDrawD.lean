/-
  REGIONS THAT DRAW THEIR ORDER, LAST PART: the region's rule.
-/
import Derived.Test.YtnhfopfmgodllaaAbDrawC
noncomputable section
namespace Go.Ab
open Go
set_option linter.unusedSectionVars false
variable [Inhabited Unknowns]
variable {P : Program} {gl : List Nat} {names : List String} {methods : List (Nat × Nat × Nat)} {call : Nat → List AV → St → Option (AV × St)}
variable {ops : Array Oper} {N : Nat} {ord : List (Option Nat)} {l : List AI} {es : List Ent} {A : Tr Nat} {F : Nat → Fr} {T : Nat → St}

/-- What an operation that was passed over has still to give. -/
structure Pend (methods : List (Nat × Nat × Nat)) (call : Nat → List AV → St → Option (AV × St)) (F : Nat → Fr) (T : Nat → St) (e : Ent) (μ : Mu) (S : St) : Prop where
  val : e.ai.op.cls ≤ 1 → wantedA e.ai (F e.p) = some true → ∀ r, runI methods call e.ai.op (F e.p) (T e.p) = some r → runI methods call e.ai.op (F e.p) S = some (r.1, S)
  blk : e.ai.op.cls = 2 → wantedA e.ai (F e.p) = some true → μ (T e.p).next = none ∧ S.heap.get (T e.p).next = (T (e.p + 1)).heap.get (T e.p).next

structure Inv (methods : List (Nat × Nat × Nat)) (call : Nat → List AV → St → Option (AV × St)) (ops : Array Oper) (N : Nat) (l : List AI) (es : List Ent) (F : Nat → Fr) (T : Nat → St) (μ0 : Mu) (w0 : World)
    (X : Nat → Bool) (s : Nat) (μ : Mu) (frv : Fr) (a : Act) (w : World) : Prop where
  closed : Closed ops X
  le : s ≤ l.length
  below : ∀ e ∈ es, X e.i = true → e.p < s
  done : ∀ e ∈ es, e.ai.op.cls = 3 → e.p < s → X e.i = true
  mono : ∀ p p', p ≤ p' → p' ≤ s → (T p).next ≤ (T p').next
  wr : ∀ e ∈ es, X e.i = true → ∀ t, e.ai.dst = some t → frv.get t = (F (e.p + 1)).get t
  un : ∀ t, (∀ e ∈ es, X e.i = true → e.ai.dst ≠ some t) → frv.get t = (F 0).get t
  pend : ∀ e ∈ es, e.p < s → X e.i = false → Pend methods call F T e μ (T s)
  frr : FrR μ N frv a.tmps
  dfr : a.defers = []
  rel : Rel μ (T s) w
  stp : Stp μ0 (T 0) w0 μ (T s) w

variable (fa : Facts P gl names ops N ord l es A) (tr : Trace methods call l F T)
variable {μ0 μ : Mu} {w0 w : World} {X : Nat → Bool} {s : Nat} {frv : Fr} {a : Act}

include fa tr in
/-- An allocation's number. -/
theorem alloc_id {e : Ent} (he : e ∈ es) (hc : e.ai.op.cls = 2) (hw : wantedA e.ai (F e.p) = some true) :
    ∃ obj mk, Names mk ∧ T (e.p + 1) = new (T e.p) obj ∧ F (e.p + 1) = putD (F e.p) e.ai.dst (some (mk (T e.p).next)) ∧ ∀ S2, runI methods call e.ai.op (F e.p) S2 = some (mk S2.next, new S2 obj) := by
  rcases one_cases (tr.at' e.p e.ai ((fa.mem e).1 he).2) with ⟨_, v, hr, hF⟩ | ⟨h, _, _⟩
  · obtain ⟨obj, mk, h1, h2, h3⟩ := runI_alloc hc hr
    simp only [Prod.mk.injEq] at h2
    exact ⟨obj, mk, h1, h2.2, by rw [hF, h2.1], h3⟩
  · rw [hw] at h; cases h

include fa tr in
theorem Inv.id_lt (h : Inv methods call ops N l es F T μ0 w0 X s μ frv a w) {e : Ent} (he : e ∈ es) (hc : e.ai.op.cls = 2) (hw : wantedA e.ai (F e.p) = some true) {p : Nat} (h1 : e.p < p) (h2 : p ≤ s) : (T e.p).next < (T p).next := by
  obtain ⟨obj, mk, _, hT, _⟩ := alloc_id fa tr he hc hw
  have := h.mono (e.p + 1) p (by omega) h2
  rw [hT] at this
  simp [new] at this
  omega

include fa tr in
/-- The canonical run goes on by an operation that turns no old block. -/
theorem Inv.step (h : Inv methods call ops N l es F T μ0 w0 X s μ frv a w) (hs : s < l.length) (hc : ∀ e ∈ es, e.p = s → e.ai.op.cls ≠ 3) : Inv methods call ops N l es F T μ0 w0 X (s + 1) μ frv a w := by
  obtain ⟨hx, hf⟩ := step_ext fa tr hs hc h.rel.fresh
  refine ⟨h.closed, hs, fun e he hX => Nat.lt_succ_of_lt (h.below e he hX), fun e he h3 hlt => ?_, fun p p' hp hp' => ?_, h.wr, h.un, fun e he hlt hX => ?_, h.frr, h.dfr, h.rel.ext hx hf, h.stp.ext h.rel hx⟩
  · rcases Nat.eq_or_lt_of_le (Nat.le_of_lt_succ hlt) with x | x
    · exact absurd h3 (hc e he x)
    · exact h.done e he h3 x
  · rcases Nat.eq_or_lt_of_le hp' with x | x
    · subst x
      rcases Nat.eq_or_lt_of_le hp with y | y
      · subst y; exact Nat.le_refl _
      · exact Nat.le_trans (h.mono p s (by omega) (Nat.le_refl _)) hx.1
    · exact h.mono p p' hp (by omega)
  · rcases Nat.eq_or_lt_of_le (Nat.le_of_lt_succ hlt) with x | x
    · refine ⟨fun hcl hw r hr => ?_, fun hcl hw => ?_⟩
      · rcases one_cases (tr.at' e.p e.ai ((fa.mem e).1 he).2) with ⟨_, v, hr2, _⟩ | ⟨h2, _, _⟩
        · rw [hr] at hr2; obtain rfl : r = (v, T (e.p + 1)) := Option.some.inj hr2
          have : T (e.p + 1) = T e.p := by
            rcases Nat.eq_or_lt_of_le hcl with y | y
            · exact (runI_read y hr).1
            · exact (runI_pure (by omega) hr).1
          rw [← x, this]; rw [this] at hr; exact hr
        · rw [hw] at h2; cases h2
      · rw [x]; exact ⟨h.rel.noNext, rfl⟩
    · have old := h.pend e he x hX
      refine ⟨fun hcl hw r hr => ?_, fun hcl hw => ?_⟩
      · have h1 := old.val hcl hw r hr
        rcases Nat.eq_or_lt_of_le hcl with y | y
        · exact (runI_read y h1).2 _ hx h.rel.fresh
        · exact (runI_pure (by omega) h1).2 _
      · obtain ⟨h1, h2⟩ := old.blk hcl hw
        refine ⟨h1, ?_⟩
        rw [hx.2 _ (h.id_lt fa tr he hcl hw x (Nat.le_refl _)), h2]

include fa tr in
theorem Inv.on (h : Inv methods call ops N l es F T μ0 w0 X s μ frv a w) : ∃ q, Inv methods call ops N l es F T μ0 w0 X q μ frv a w ∧ (q < l.length → ∃ e ∈ es, e.p = q ∧ e.ai.op.cls = 3) := by
  obtain ⟨d, hd⟩ : ∃ d, d = l.length - s := ⟨_, rfl⟩
  induction d generalizing s with
  | zero => exact ⟨s, h, fun hlt => by omega⟩
  | succ d ih =>
    by_cases hc : ∃ e ∈ es, e.p = s ∧ e.ai.op.cls = 3
    · exact ⟨s, h, fun _ => hc⟩
    · exact ih (h.step fa tr (by omega) fun e he hp h3 => hc ⟨e, he, hp, h3⟩) (by omega)

include fa tr in
/-- An operation that may come up finds what the canonical run finds. -/
theorem Inv.agree (h : Inv methods call ops N l es F T μ0 w0 X s μ frv a w) {e : Ent} (he : e ∈ es) (hX : X e.i = false) (hp : ∀ j ∈ preds ops e.i, X j = true) : Agree e.ai.uses frv (F e.p) := by
  intro t ht
  obtain ⟨c1, c2⟩ := canon fa tr e.p (Nat.le_of_lt (fa.lt he))
  by_cases hb : ∃ b ∈ es, X b.i = true ∧ b.ai.dst = some t
  · obtain ⟨b, mb, hXb, hd⟩ := hb
    have hne : e.p ≠ b.p := fun x => by
      have := fa.uniq he mb x; subst this; rw [hX] at hXb; cases hXb
    rcases fa.use e he b mb hne t hd ht with ⟨u1, _⟩ | ⟨_, u2⟩
    · rw [h.wr b mb hXb t hd, c1 b mb u1 t hd]
    · have := isAnc_listed fa.sound h.closed (h.closed _ hXb) u2
      rw [hX] at this; cases this
  · rw [h.un t fun b mb hXb hd => hb ⟨b, mb, hXb, hd⟩, c2 t fun b mb hlt hd => ?_]
    rcases fa.use e he b mb (by omega) t hd ht with ⟨_, u2⟩ | ⟨u1, _⟩
    · exact hb ⟨b, mb, isAnc_listed fa.sound h.closed hp u2, hd⟩
    · omega

def also (X : Nat → Bool) (i : Nat) : Nat → Bool := fun j => j == i || X j
theorem also_self (X : Nat → Bool) (i : Nat) : also X i i = true := by simp [also]
theorem also_old {X : Nat → Bool} {i j : Nat} (h : X j = true) : also X i j = true := by simp [also, h]
theorem also_not {X : Nat → Bool} {i j : Nat} (h : also X i j = false) : j ≠ i ∧ X j = false := by simpa [also] using h
theorem also_cases {X : Nat → Bool} {i j : Nat} (h : also X i j = true) : j = i ∨ X j = true := by simpa [also] using h

include fa in
/-- What is common to all steps. -/
theorem Inv.next (h : Inv methods call ops N l es F T μ0 w0 X s μ frv a w) {e : Ent} (he : e ∈ es) (hp : ∀ j ∈ preds ops e.i, X j = true) {v : AV} (hv : F (e.p + 1) = putD (F e.p) e.ai.dst (some v))
    {s' : Nat} {μ' : Mu} {a' : Act} {w' : World} (hs : s ≤ s') (hl : s' ≤ l.length) (hes : e.p < s') (hdone : ∀ c ∈ es, c.ai.op.cls = 3 → c.p < s' → s ≤ c.p → c = e) (hmono : ∀ p p', p ≤ p' → p' ≤ s' → (T p).next ≤ (T p').next)
    (hpend : ∀ c ∈ es, c.p < s' → c.i ≠ e.i → X c.i = false → Pend methods call F T c μ' (T s')) (hfr : FrR μ' N (putD frv e.ai.dst (some v)) a'.tmps) (hd : a'.defers = []) (hR : Rel μ' (T s') w') (hS : Stp μ0 (T 0) w0 μ' (T s') w') :
    Inv methods call ops N l es F T μ0 w0 (also X e.i) s' μ' (putD frv e.ai.dst (some v)) a' w' := by
  refine ⟨fun i hi j hj => ?_, hl, fun c hc hX => ?_, fun c hc h3 hlt => ?_, hmono, fun c hc hX t ht => ?_, fun t ht => ?_, fun c hc hlt hX => ?_, hfr, hd, hR, hS⟩
  · rcases also_cases hi with rfl | hi
    · exact also_old (hp j hj)
    · exact also_old (h.closed i hi j hj)
  · rcases also_cases hX with hi | hX
    · rw [fa.uniqI hc he hi]; exact hes
    · exact Nat.lt_of_lt_of_le (h.below c hc hX) hs
  · rcases Nat.lt_or_ge c.p s with x | x
    · exact also_old (h.done c hc h3 x)
    · rw [hdone c hc h3 hlt x]; exact also_self _ _
  · rw [putD_get]
    by_cases hce : c.i = e.i
    · have := fa.uniqI hc he hce; subst this
      rw [if_pos ht, hv, putD_get, if_pos ht]
    · have hne : e.p ≠ c.p := fun x => hce (by rw [fa.uniq he hc x])
      rw [if_neg (fa.dst e he c hc hne t ht)]
      exact h.wr c hc ((also_cases hX).resolve_left hce) t ht
  · rw [putD_get, if_neg (ht e he (also_self _ _))]
    exact h.un t fun c hc hX => ht c hc (also_old hX)
  · obtain ⟨h1, h2⟩ := also_not hX
    exact hpend c hc hlt h1 h2

include fa tr in
/-- A load that was passed over, behind an operation of the chain that it need not precede. -/
theorem re_val {b e : Ent} (hb : b ∈ es) (hlt : b.p < e.p) {sz : Option Nat} {x : Go.Ab.X} {d : Nat} (ho : b.ai.op = .a (.load sz x)) (hd : b.ai.dst = some d)
    {k : Nat} {c : AI} (hk : ∀ j, j ≤ k → ord[e.p + 1 + j]? = some none) (hc : l[e.p + 1 + k]? = some c) (hco : c.op = .f (.recheck d sz x)) (hcg : c.g = b.ai.g)
    (hun : ∀ c ∈ es, b.p ≤ c.p → c.p ≤ e.p → ∀ t, c.ai.dst = some t → t ∉ b.ai.uses) (hw : wantedA b.ai (F b.p) = some true) {r : AV × St} (hr : runI methods call b.ai.op (F b.p) (T b.p) = some r) :
    runI methods call b.ai.op (F b.p) (T (e.p + 1)) = some (r.1, T (e.p + 1)) := by
  have hlen : e.p + 1 + k < l.length := by
    rcases Nat.lt_or_ge (e.p + 1 + k) l.length with h | h
    · exact h
    · rw [List.getElem?_eq_none h] at hc; cases hc
  have same : ∀ j, j ≤ k → T (e.p + 1 + j) = T (e.p + 1) := by
    intro j
    induction j with
    | zero => intro _; rfl
    | succ j ih =>
      intro hj
      rw [← ih (by omega)]
      exact (re_same fa tr (a := l[e.p + 1 + j]'(by omega)) (hk j (by omega)) (List.getElem?_eq_getElem _)).1
  have noEnt : ∀ g ∈ es, g.p < e.p + 1 + k → g.p ≤ e.p := fun g hg hlt => by
    rcases Nat.lt_or_ge e.p g.p with y | y
    · have := hk (g.p - (e.p + 1)) (by omega)
      rw [show e.p + 1 + (g.p - (e.p + 1)) = g.p by omega, ((fa.mem g).1 hg).1] at this
      cases this
    · exact y
  have agr : Agree b.ai.uses (F (e.p + 1 + k)) (F b.p) := by
    intro t ht
    obtain ⟨c1, c2⟩ := canon fa tr b.p (Nat.le_of_lt (fa.lt hb))
    obtain ⟨d1, d2⟩ := canon fa tr (e.p + 1 + k) (Nat.le_of_lt hlen)
    have out : ∀ g ∈ es, g.ai.dst = some t → g.p < e.p + 1 + k → g.p < b.p := fun g hg hgt hlt => by
      have h1 := noEnt g hg hlt
      rcases Nat.lt_or_ge g.p b.p with y | y
      · exact y
      · exact absurd ht (hun g hg y h1 t hgt)
    by_cases hg : ∃ g ∈ es, g.p < b.p ∧ g.ai.dst = some t
    · obtain ⟨g, mg, h1, h2⟩ := hg
      rw [d1 g mg (by omega) t h2, c1 g mg h1 t h2]
    · rw [d2 t fun g mg h1 h2 => hg ⟨g, mg, out g mg h2 h1, h2⟩, c2 t fun g mg h1 h2 => hg ⟨g, mg, h1, h2⟩]
  have hwc : wantedA c (F (e.p + 1 + k)) = some true := by
    rw [← hw, ← wantedA_agree agr]
    unfold wantedA; rw [hcg]
  have hone := tr.at' _ _ hc
  rcases one_cases hone with ⟨_, v, hrc, _⟩ | ⟨h2, _, _⟩
  rotate_left
  · rw [hwc] at h2; cases h2
  have hdv : (F (e.p + 1 + k)).get d = some r.1 := by
    rw [(canon fa tr (e.p + 1 + k) (Nat.le_of_lt hlen)).1 b hb (by omega) d hd]
    rcases one_cases (tr.at' b.p b.ai ((fa.mem b).1 hb).2) with ⟨_, v', hr2, hF⟩ | ⟨h2, _, _⟩
    · rw [hr] at hr2; obtain rfl := Option.some.inj hr2
      rw [hF, putD_get, if_pos hd]
    · rw [hw] at h2; cases h2
  have hx : evX (F (e.p + 1 + k)) x = evX (F b.p) x := evX_agree fun t ht => agr t (by simp [AI.uses, ho, AOp.uses, OpA.uses, ht])
  rw [hco] at hrc
  simp only [runI, stepF, do_recheck, hdv, hx] at hrc
  rw [ho]
  simp only [runI, stepA, do_load]
  rw [same k (Nat.le_refl _)] at hrc
  split at hrc <;> (try (cases hrc; done))
  rename_i v0 b0 o0 h1 h2
  obtain rfl := Option.some.inj h1
  split at hrc <;> (try (cases hrc; done))
  rename_i u hu
  split at hrc <;> (try (cases hrc; done))
  rename_i hsame
  rw [h2]; simp only [hu]
  rw [AV.same_eq hsame]

include fa tr in
/-- The next operation of the chain. -/
theorem Inv.chained (h : Inv methods call ops N l es F T μ0 w0 X s μ frv a w) {e : Ent} (he : e ∈ es) (hes : e.p = s) (h3 : e.ai.op.cls = 3) (hp : ∀ j ∈ preds ops e.i, X j = true) {v : AV} (hv : F (e.p + 1) = putD (F e.p) e.ai.dst (some v))
    {μ' : Mu} {a' : Act} {w' : World} (hfr : FrR μ' N (putD frv e.ai.dst (some v)) a'.tmps) (hd : a'.defers = []) (hR : Rel μ' (T (s + 1)) w') (hS : Stp μ (T s) w μ' (T (s + 1)) w') :
    Inv methods call ops N l es F T μ0 w0 (also X e.i) (s + 1) μ' (putD frv e.ai.dst (some v)) a' w' := by
  subst hes
  refine h.next fa he hp hv (Nat.le_succ _) (fa.lt he) (Nat.lt_succ_self _) (fun c hc _ h1 h2 => fa.uniq hc he (by omega)) (fun p p' hp hp' => ?_) (fun c hc hlt hne hXc => ?_) hfr hd hR (h.stp.trans hS)
  · rcases Nat.eq_or_lt_of_le hp' with x | x
    · subst x
      rcases Nat.eq_or_lt_of_le hp with y | y
      · subst y; exact Nat.le_refl _
      · exact Nat.le_trans (h.mono p e.p (by omega) (Nat.le_refl _)) hS.next
    · exact h.mono p p' hp (by omega)
  · have hlt' : c.p < e.p := by
      rcases Nat.eq_or_lt_of_le (Nat.le_of_lt_succ hlt) with x | x
      · exact absurd (by rw [fa.uniq hc he x]) hne
      · exact x
    have old := h.pend c hc hlt' hXc
    refine ⟨fun hcl hw r hr => ?_, fun hcl hw => ?_⟩
    · rcases Nat.eq_or_lt_of_le hcl with y | y
      · rcases fa.read c hc e he y h3 hlt' with g | ⟨sz, x, d, ho, hdd, ⟨k, c', k1, k2, k3, k4⟩, hun⟩
        · have := isAnc_listed fa.sound h.closed hp g
          rw [hXc] at this; cases this
        · exact re_val fa tr hc hlt' ho hdd k1 k2 k3 k4 hun hw hr
      · exact (runI_pure (by omega) (old.val hcl hw r hr)).2 _
    · obtain ⟨h1, h2⟩ := old.blk hcl hw
      have hid := h.id_lt fa tr hc hcl hw hlt' (Nat.le_refl _)
      refine ⟨?_, by rw [hS.ghost _ h1 hid, h2]⟩
      cases z : μ' (T c.p).next with
      | none => rfl
      | some L => have := hS.new _ L z h1; omega

include fa tr in
/-- An operation that was passed over and that turns nothing. -/
theorem Inv.quiet (h : Inv methods call ops N l es F T μ0 w0 X s μ frv a w) {e : Ent} (he : e ∈ es) (hes : e.p < s) (hp : ∀ j ∈ preds ops e.i, X j = true) {v : AV} (hv : F (e.p + 1) = putD (F e.p) e.ai.dst (some v))
    {μ' : Mu} {a' : Act} {w' : World} (hfr : FrR μ' N (putD frv e.ai.dst (some v)) a'.tmps) (hd : a'.defers = []) (hR : Rel μ' (T s) w') (hS : Stp μ (T s) w μ' (T s) w') :
    Inv methods call ops N l es F T μ0 w0 (also X e.i) s μ' (putD frv e.ai.dst (some v)) a' w' := by
  refine h.next fa he hp hv (Nat.le_refl _) h.le hes (fun c _ _ h1 h2 => by omega) h.mono (fun c hc hlt _ hXc => ?_) hfr hd hR (h.stp.trans hS)
  have old := h.pend c hc hlt hXc
  refine ⟨old.val, fun hcl hw => ?_⟩
  obtain ⟨h1, h2⟩ := old.blk hcl hw
  have hid := h.id_lt fa tr hc hcl hw hlt (Nat.le_refl _)
  refine ⟨?_, h2⟩
  cases z : μ' (T c.p).next with
  | none => rfl
  | some L => have := hS.new _ L z h1; omega

include fa tr in
/-- A block that the canonical order made earlier. -/
theorem Inv.made (h : Inv methods call ops N l es F T μ0 w0 X s μ frv a w) {e : Ent} (he : e ∈ es) (hes : e.p < s) (hcl : e.ai.op.cls = 2) (hw : wantedA e.ai (F e.p) = some true) (hp : ∀ j ∈ preds ops e.i, X j = true) {v : AV} (hv : F (e.p + 1) = putD (F e.p) e.ai.dst (some v))
    {μ' : Mu} {a' : Act} {w' : World} (hfr : FrR μ' N (putD frv e.ai.dst (some v)) a'.tmps) (hd : a'.defers = []) (hR : Rel μ' (T s) w') (hS : Stp μ0 (T 0) w0 μ' (T s) w') (hμ : ∀ c, c ≠ (T e.p).next → μ' c = μ c) :
    Inv methods call ops N l es F T μ0 w0 (also X e.i) s μ' (putD frv e.ai.dst (some v)) a' w' := by
  refine h.next fa he hp hv (Nat.le_refl _) h.le hes (fun c _ _ h1 h2 => by omega) h.mono (fun c hc hlt hne hXc => ?_) hfr hd hR hS
  have old := h.pend c hc hlt hXc
  refine ⟨old.val, fun hcl' hw' => ?_⟩
  obtain ⟨h1, h2⟩ := old.blk hcl' hw'
  refine ⟨?_, h2⟩
  rw [hμ _ ?_]; exact h1
  have hpp : c.p ≠ e.p := fun x => hne (by rw [fa.uniq hc he x])
  rcases Nat.lt_or_ge c.p e.p with x | x
  · have := h.id_lt fa tr hc hcl' hw' x (Nat.le_of_lt hes); omega
  · have := h.id_lt fa tr he hcl hw (p := c.p) (by omega) (Nat.le_of_lt hlt); omega

/-! ### The rule -/
theorem one_agree {i : AI} {fr fr' fr1 : Fr} {S S' : St} (h : Agree i.uses fr fr') (h1 : one methods call i fr' S = some (fr1, S')) : ∃ v, fr1 = putD fr' i.dst (some v) ∧ one methods call i fr S = some (putD fr i.dst (some v), S') := by
  have hop : Agree i.op.uses fr fr' := fun t ht => h t (by simp [AI.uses, ht])
  rcases one_cases h1 with ⟨hw, v, hr, e⟩ | ⟨hw, e1, e⟩
  · exact ⟨v, e, one_ran (by rw [wantedA_agree h]; exact hw) (by rw [runI_agree hop]; exact hr)⟩
  · subst e1; exact ⟨_, e, one_skipped (by rw [wantedA_agree h]; exact hw)⟩

theorem wanted_true {ops : Array Oper} {o : Oper} {i : AI} (h : guardOk ops o.guard i.g = true) {μ : Mu} {N : Nat} {fr : Fr} {a : Act} (hf : FrR μ N fr a.tmps) (hw : wantedA i fr = some true) : Region.wanted o (yielded ops a.tmps) = true := by
  obtain ⟨h1, h2, h3⟩ := wanted_run h hf
  unfold wantedA at hw
  split at hw
  · rename_i e; exact h1 e
  · rename_i t want e
    split at hw
    · rename_i b hb; rw [h2 t want b e hb]; simpa using hw
    · cases hw
    · cases hw

def unlisted (L : Array Bool) : Nat → Nat
  | 0 => 0
  | n + 1 => unlisted L n + if L.getD n true = true then 0 else 1
theorem unlisted_set {L : Array Bool} {i : Nat} : ∀ n, unlisted (L.setIfInBounds i true) n + (if i < n ∧ L.getD i true = false then 1 else 0) = unlisted L n
  | 0 => by simp [unlisted]
  | n + 1 => by
    have ih := unlisted_set (L := L) (i := i) n
    simp only [unlisted]
    by_cases h : i = n
    · subst h
      rw [if_neg (by omega)] at ih
      by_cases hb : i < L.size
      · have : (L.setIfInBounds i true).getD i true = true := by simp [hb]
        rw [this]
        cases hL : L.getD i true <;> simp <;> omega
      · have h1 : L.getD i true = true := by simp [hb]
        have h2 : (L.setIfInBounds i true).getD i true = true := by simp [hb]
        rw [h1, h2]; simp; omega
    · rw [getD_set_ne true h]
      have : (i < n + 1 ∧ L.getD i true = false) ↔ (i < n ∧ L.getD i true = false) := by constructor <;> (rintro ⟨h1, h2⟩; exact ⟨by omega, h2⟩)
      simp only [this]
      omega
theorem unlisted_zero {L : Array Bool} : ∀ n, unlisted L n = 0 → ∀ i, i < n → L.getD i true = true
  | 0, _, i, hi => by omega
  | n + 1, h, i, hi => by
    simp only [unlisted] at h
    rcases Nat.eq_or_lt_of_le (Nat.le_of_lt_succ hi) with x | x
    · subst x
      cases hL : L.getD i true with
      | true => rfl
      | false => rw [hL] at h; simp at h
    · exact unlisted_zero n (by omega) i x
theorem unlisted_new (n : Nat) : ∀ k, k ≤ n → unlisted (Array.replicate n false) k = k
  | 0, _ => rfl
  | k + 1, h => by
    simp only [unlisted, unlisted_new n k (by omega)]
    simp [show k < n by omega]
theorem getD_both {L : Array Bool} {i : Nat} (h : i < L.size) : L.getD i true = L.getD i false := by simp [h]
theorem also_set {L : Array Bool} {i : Nat} (h : i < L.size) : (fun j => (L.setIfInBounds i true).getD j false) = also (fun j => L.getD j false) i := by
  funext j
  simp only [also]
  by_cases e : i = j
  · subst e; simp [h]
  · rw [getD_set_ne false e]; simp [show (j == i) = false by simpa using fun x => e x.symm]

theorem preds_mem {i : Nat} {o : Oper} (ho : ops[i]? = some o) {X : Nat → Bool} : (∀ j ∈ preds ops i, X j = true) ↔ ∀ e ∈ o.after, Region.binds .any e = true → X e.on = true := by
  simp only [preds, ho, List.mem_map, List.mem_filter, Array.mem_toList_iff]
  constructor
  · intro h e he hb; exact h _ ⟨e, ⟨he, hb⟩, rfl⟩
  · rintro h j ⟨e, ⟨he, hb⟩, rfl⟩; exact h e he hb

include fa tr in
theorem draw_any (hm : MethS P names methods) (hcall : CallS P gl call) (hg : GR gl μ0) {Q : Exit → Act → World → Prop} (hQ : ∀ a' w', Went μ0 (T 0) w0 N (F l.length) (T l.length) a' w' → Q .normal a' w') :
    ∀ (fuel : Nat) (listed : Array Bool) {s : Nat} {μ : Mu} {frv : Fr} {a : Act} {w : World}, listed.size = ops.size → unlisted listed ops.size ≤ fuel →
      Inv methods call ops N l es F T μ0 w0 (fun i => listed.getD i false) s μ frv a w → wpAny P .any ops Q fuel listed a w := by
  intro fuel
  have esz : ∀ e ∈ es, e.i < ops.size := fun e he => by
    obtain ⟨o, ho, _⟩ := fa.op e he
    exact (Array.getElem?_eq_some_iff.1 ho).1
  have finish : ∀ (listed : Array Bool) {s : Nat} {μ : Mu} {frv : Fr} {a : Act} {w : World}, (∀ e ∈ es, listed.getD e.i false = true) → Inv methods call ops N l es F T μ0 w0 (fun i => listed.getD i false) s μ frv a w → Q .normal a w := by
    intro listed s μ frv a w hall h
    obtain ⟨q, h, hq⟩ := h.on fa tr
    have hql : q = l.length := by
      rcases Nat.eq_or_lt_of_le h.le with x | x
      · exact x
      · obtain ⟨e, he, hp, _⟩ := hq x
        have := h.below e he (hall e he); omega
    subst hql
    refine hQ _ _ ⟨μ, ⟨h.frr.size, fun t v hv => h.frr.get t v ?_⟩, h.dfr, h.rel, h.stp⟩
    obtain ⟨c1, c2⟩ := canon fa tr l.length (Nat.le_refl _)
    by_cases hb : ∃ b ∈ es, b.ai.dst = some t
    · obtain ⟨b, mb, hd⟩ := hb
      rw [h.wr b mb (hall b mb) t hd, ← c1 b mb (fa.lt mb) t hd]; exact hv
    · rw [h.un t fun b mb _ hd => hb ⟨b, mb, hd⟩, ← c2 t fun b mb _ hd => hb ⟨b, mb, hd⟩]; exact hv
  have nothing : ∀ (listed : Array Bool), listed.size = ops.size → Region.ready .any ops listed = [] → ∀ e ∈ es, listed.getD e.i false = true := by
    intro listed hsz hr
    have : ∀ p, ∀ e ∈ es, e.p = p → listed.getD e.i false = true := by
      intro p
      induction p using Nat.strongRecOn with
      | _ p ih =>
        intro e he hp
        cases hx : listed.getD e.i false with
        | true => rfl
        | false =>
          obtain ⟨o, ho, _⟩ := fa.op e he
          have hin : e.i ∈ Region.ready .any ops listed := by
            refine mem_ready.2 ⟨by rw [getD_both (by rw [hsz]; exact esz e he)]; exact hx, o, ho, ?_⟩
            refine (preds_mem ho (X := fun i => listed.getD i false)).1 fun j hj => ?_
            obtain ⟨b, mb, rfl, hlt⟩ := fa.pre e he j hj
            exact ih b.p (by omega) b mb rfl
          rw [hr] at hin; cases hin
    exact fun e he => this e.p e he rfl
  induction fuel with
  | zero =>
    intro listed s μ frv a w hsz hu h
    have hall : ∀ i, i < ops.size → listed.getD i true = true := unlisted_zero _ (by omega)
    have hr : Region.ready .any ops listed = [] := by
      cases hr : Region.ready .any ops listed with
      | nil => rfl
      | cons x xs =>
        have : x ∈ Region.ready .any ops listed := by rw [hr]; simp
        obtain ⟨h1, o, ho, _⟩ := mem_ready.1 this
        rw [hall x (Array.getElem?_eq_some_iff.1 ho).1] at h1; cases h1
    exact ⟨hr, finish listed (nothing listed hsz hr) h⟩
  | succ fuel ih =>
    intro listed s μ frv a w hsz hu h
    refine ⟨fun hr => finish listed (nothing listed hsz hr) h, fun i hi => ?_⟩
    obtain ⟨hun, o, ho, hafter⟩ := mem_ready.1 hi
    have hisz : i < ops.size := (Array.getElem?_eq_some_iff.1 ho).1
    obtain ⟨e, he, rfl⟩ := fa.all i hisz
    have hX : listed.getD e.i false = false := by rw [← getD_both (by omega)]; exact hun
    have hpre := (preds_mem ho (X := fun i => listed.getD i false)).2 hafter
    have hsz' : (listed.setIfInBounds e.i true).size = ops.size := by simpa using hsz
    have hu' : unlisted (listed.setIfInBounds e.i true) ops.size ≤ fuel := by
      have := unlisted_set (L := listed) (i := e.i) ops.size
      rw [if_pos ⟨hisz, hun⟩] at this; omega
    obtain ⟨o', ho', hck⟩ := fa.op e he
    rw [ho] at ho'; obtain rfl := Option.some.inj ho'
    obtain ⟨q, h, hq⟩ := h.on fa tr
    have hagr := h.agree fa tr he hX hpre
    have hgμ := hg.mono h.stp.le
    have hone := tr.at' e.p e.ai ((fa.mem e).1 he).2
    have hpos : e.p < q ∨ (e.p = q ∧ e.ai.op.cls = 3) := by
      rcases Nat.lt_trichotomy e.p q with x | x | x
      · exact .inl x
      · obtain ⟨k, mk, hkp, hk3⟩ := hq (by rw [← x]; exact fa.lt he)
        have := fa.uniq he mk (by omega); subst this
        exact .inr ⟨x, hk3⟩
      · obtain ⟨k, mk, hkp, hk3⟩ := hq (Nat.lt_trans x (fa.lt he))
        have h1 := fa.chain k mk e he hk3 (by omega)
        have h2 := isAnc_listed fa.sound h.closed hpre h1
        have := h.below k mk h2; omega
    unfold wpOp
    simp only [ho]
    -- what runs in the same state's shape
    have go : ∀ {v : AV} {S1 : St}, one methods call e.ai frv (T q) = some (putD frv e.ai.dst (some v), S1) →
        (∀ μ1 a1 w1, FrR μ1 N (putD frv e.ai.dst (some v)) a1.tmps → a1.defers = [] → Rel μ1 S1 w1 → Stp μ (T q) w μ1 S1 w1 → wpAny P .any ops Q fuel (listed.setIfInBounds e.i true) a1 w1) →
        if Region.wanted o (yielded ops a.tmps) then o.wp P a w (wpAny P .any ops Q fuel (listed.setIfInBounds e.i true)) Q ∨ (o.asks P a w ∧ LetsOut Q) else wpAny P .any ops Q fuel (listed.setIfInBounds e.i true) (a.put o.dst undef) w := by
      intro v S1 h1 h2
      have key := run_one (K := wpAny P .any ops Q fuel (listed.setIfInBounds e.i true)) (Q := Q) hm hcall hck hgμ h.rel h.frr h.dfr (nx := fun fr S => some (fr, S)) (r := (putD frv e.ai.dst (some v), S1)) h1 fun fr1 S2 a1 w1 μ1 e1 e2 e3 e4 e5 => by
        cases e1
        exact h2 μ1 a1 w1 e2 e3 e4 e5
      split
      · rename_i hw; rw [if_pos hw] at key; exact .inl key
      · rename_i hw; rw [if_neg hw] at key; exact key
    rcases hpos with hlt | ⟨hqe, h3⟩
    · have hn3 : e.ai.op.cls ≠ 3 := fun h3 => by
        have := h.done e he h3 hlt
        rw [hX] at this; cases this
      have hn4 := fa.cls e he
      rcases one_cases hone with ⟨hw, v, hr, hF⟩ | ⟨hw, hT, hF⟩
      · by_cases h2 : e.ai.op.cls = 2
        · obtain ⟨obj, mk, n1, n2, n3, n4⟩ := alloc_id fa tr he h2 hw
          obtain ⟨p1, p2⟩ := (h.pend e he hlt hX).blk h2 hw
          have hop : Agree e.ai.op.uses frv (F e.p) := fun t ht => hagr t (by simp [AI.uses, ht])
          simp only [chkI, Bool.and_eq_true] at hck
          obtain ⟨⟨k1, k2⟩, k3⟩ := hck
          obtain ⟨ed, hlt'⟩ := dstOk_spec k1
          obtain ⟨μ2, w1, u, r1, r2, r3, r4, r5, r6⟩ := alloc_late k3 h2 n1 (fun S2 => by rw [runI_agree hop]; exact n4 S2) hgμ h.rel h.frr p1 (h.id_lt fa tr he h2 hw hlt (Nat.le_refl _))
            (by rw [p2, n2, new_get, if_pos rfl]) h.stp (h.mono 0 e.p (Nat.zero_le _) (Nat.le_of_lt hlt))
          have hwn : Region.wanted o (yielded ops a.tmps) = true := wanted_true k2 h.frr (by rw [wantedA_agree hagr]; exact hw)
          rw [if_pos hwn]
          refine .inl ?_
          have K : wpAny P .any ops Q fuel (listed.setIfInBounds e.i true) (a.put o.dst u) w1 := by
            refine ih _ (frv := putD frv e.ai.dst (some (mk (T e.p).next))) (μ := μ2) (s := q) hsz' hu' ?_
            rw [also_set (by omega)]
            refine h.made fa tr he hlt h2 hw hpre n3 ?_ ?_ r3 r4 r6
            · rw [ed]; exact (h.frr.mono r5).put hlt' r2
            · rw [ed]; cases e.ai.dst <;> exact h.dfr
          unfold Oper.wp
          rcases r1 with r1 | ⟨r1, rfl⟩ <;> rw [r1] <;> exact K
        · have hcl : e.ai.op.cls ≤ 1 := by
            have : ∀ op : AOp, op.cls ≤ 4 := fun op => by unfold AOp.cls; split <;> omega
            have := this e.ai.op; omega
          have hval := (h.pend e he hlt hX).val hcl hw _ hr
          have hop : Agree e.ai.op.uses frv (F e.p) := fun t ht => hagr t (by simp [AI.uses, ht])
          rw [← runI_agree hop] at hval
          refine go (v := v) (one_ran (by rw [wantedA_agree hagr]; exact hw) hval) fun μ1 a1 w1 e2 e3 e4 e5 => ?_
          have hh := h.quiet fa tr he hlt hpre hF e2 e3 e4 e5
          rw [← also_set (by omega)] at hh
          exact ih _ hsz' hu' hh
      · refine go (v := .tup []) (one_skipped (by rw [wantedA_agree hagr]; exact hw)) fun μ1 a1 w1 e2 e3 e4 e5 => ?_
        have hh := h.quiet fa tr he hlt hpre hF e2 e3 e4 e5
        rw [← also_set (by omega)] at hh
        exact ih _ hsz' hu' hh
    · subst hqe
      obtain ⟨v, hF, hone'⟩ := one_agree hagr hone
      refine go hone' fun μ1 a1 w1 e2 e3 e4 e5 => ?_
      have hh := h.chained fa tr he rfl h3 hpre hF e2 e3 e4 e5
      rw [← also_set (by omega)] at hh
      exact ih _ hsz' hu' hh

/-- A region that draws its order. -/
theorem region_draw (hmx : P.follows .mixedOrders = true) (hm : MethS P names methods) (hcall : CallS P gl call) (hc : chkDraw P gl names ops N ord l = true)
    {S : St} {fr fr' : Fr} {S' : St} (hg : GR gl μ) (hR : Rel μ S w) (hf : FrR μ N fr a.tmps) (hd : a.defers = []) (h : runIs methods call l fr S = some (fr', S')) {Q : Exit → Act → World → Prop} (hQ : ∀ a' w', Went μ S w N fr' S' a' w' → Q .normal a' w') (id : Nat) :
    (Code.region id ops true).wp P Q a w := by
  obtain ⟨F, T, tr, rfl, rfl, rfl, rfl⟩ := trace_of l h
  have fa := chkDraw_facts hc
  refine wp_region_any hmx ?_
  refine draw_any (w0 := w) (μ0 := μ) fa tr hm hcall hg hQ _ _ (s := 0) (μ := μ) (frv := F 0) (by simp) (by rw [unlisted_new _ _ (Nat.le_refl _)]; exact Nat.le_refl _) ?_
  have hx : ∀ i, (Array.replicate ops.size false).getD i false = false := fun i => by
    by_cases hi : i < ops.size <;> simp [hi]
  refine ⟨fun i hi => (by rw [hx] at hi; cases hi), Nat.zero_le _, fun e _ hi => (by rw [hx] at hi; cases hi), fun e _ _ hlt => by omega, fun p p' h1 h2 => (by rw [show p = p' by omega]; exact Nat.le_refl _), fun e _ hi => (by rw [hx] at hi; cases hi), fun t _ => rfl, fun e _ hlt => by omega, hf, hd, hR.drew, Stp.drew⟩
end Go.Ab
