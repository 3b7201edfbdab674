/-
  CODE AND FUNCTIONS: what the abstract machine comes to is what the model comes to.
-/
import Derived.Test.YtnhfopfmgodllaaAbDrawD
import Derived.LoopN
noncomputable section
namespace Go.Ab
open Go
set_option linter.unusedSectionVars false
variable [Inhabited Unknowns]
variable {P : Program} {gl : List Nat} {names : List String}

/-! ### The check -/
def chkCode (P : Program) (gl : List Nat) (names : List String) (N : Nat) : Code → ACode → Bool
  | .skip, .skip => true
  | .region _ ops false, .ops _ l => chkSeq P gl names ops N ops.toList l
  | .region _ ops true, .ops ord l => chkDraw P gl names ops N ord l
  | .seq a b, .seq a' b' => chkCode P gl names N a a' && chkCode P gl names N b b'
  | .cond x a b, .cond x' a' b' => opdOk gl x x' && chkCode P gl names N a a' && chkCode P gl names N b b'
  | .block i c, .block i' c' => i == i' && chkCode P gl names N c c'
  | .loop c, .loop c' => chkCode P gl names N c c'
  | .exit i, .exit i' => i == i'
  | .ret, .ret => true
  | _, _ => false

def chkRes (P : Program) : List ResultVar → List ARes → Bool
  | [], [] => true
  | .tmp t :: l, .tmp t' :: m => t == t' && chkRes P l m
  | .cell t ty :: l, .cell t' sz :: m => t == t' && szOk P ty sz && chkRes P l m
  | _, _ => false

def chkFn (P : Program) (gl : List Nat) (names : List String) (f : Nat) (fn : AFn) : Bool :=
  match P.funcs[f]? with
  | some fd => match fd.body with
    | some c => fd.name != "runtime.NumGoroutine" && chkRes P fd.results.toList fn.res && chkCode P gl names (fn.nargs + (fd.ntmps - fn.nargs)) c fn.body
    | none => false
  | none => false

def exOf : AEx → Exit
  | .normal => .normal
  | .exit id => .exit id
  | .ret => .ret

/-- What is run by 'ex' is run by the model. -/
def CodeS (P : Program) (gl : List Nat) (names : List String) (ex : ACode → Fr → St → Option (AEx × Fr × St)) : Prop :=
  ∀ N c ac, chkCode P gl names N c ac = true → ∀ fr S e fr' S', ex ac fr S = some (e, fr', S') → ∀ μ w a, GR gl μ → Rel μ S w → FrR μ N fr a.tmps → a.defers = [] →
    ∀ Q : Exit → Act → World → Prop, (∀ a' w', Went μ S w N fr' S' a' w' → Q (exOf e) a' w') → c.wp P Q a w

/-- Functions that are given by contracts are sound. -/
def PrimS (P : Program) (gl : List Nat) (prims : Tr (List AV → St → Option (AV × St))) : Prop :=
  ∀ f g, prims.get f = some g → ∀ vs S v S', g vs S = some (v, S') → ∀ μ w (args : Array Value), GR gl μ → Rel μ S w → VRs μ vs args.toList → CallR P f args w (Back μ S w v S')

def FnS (P : Program) (gl : List Nat) (names : List String) (funcs : Tr AFn) : Prop := ∀ f fn, funcs.get f = some fn → chkFn P gl names f fn = true

theorem enter_get : ∀ (vs : List AV) (n t : Nat), (enter n vs).get t = if n ≤ t then vs[t - n]? else none
  | [], n, t => by simp [enter]
  | v :: l, n, t => by
    simp only [enter, Tr.get_put, enter_get l (n + 1) t]
    by_cases h : t = n
    · subst h; simp
    · rw [if_neg h]
      by_cases h2 : n ≤ t
      · rw [if_pos h2, if_pos (by omega), show t - n = (t - (n + 1)) + 1 by omega]; simp
      · rw [if_neg h2, if_neg (by omega)]

theorem enter_frr {μ : Mu} {vs : List AV} {args : Array Value} (h : VRs μ vs args.toList) (k : Nat) : FrR μ (vs.length + k) (enter 0 vs) (args ++ Array.replicate k undef) := by
  have hl := h.length
  refine ⟨by simp at hl; simp [hl], fun n v e => ?_⟩
  rw [enter_get] at e
  simp only [Nat.zero_le, if_true, Nat.sub_zero] at e
  obtain ⟨u, h1, h2⟩ := h.get n v e
  refine ⟨u, ?_, h2⟩
  have : n < args.size := by
    rcases Nat.lt_or_ge n args.toList.length with x | x
    · simpa using x
    · rw [List.getElem?_eq_none x] at h1; cases h1
  rw [Array.getElem?_append_left this]
  simpa using h1

def resF (tmps : Array Value) : ResultVar → Sem Value
  | .tmp t => pure (tmps.getD t undef)
  | .cell a t => do loadVar t (← asAddr (tmps.getD a undef))
def asOne : List AV → AV
  | [v] => v
  | vs => .tup vs

theorem results_list {μ : Mu} {S : St} {w : World} (hR : Rel μ S w) {N : Nat} {fr : Fr} {tmps : Array Value} (hf : FrR μ N fr tmps) : ∀ {rs : List ResultVar} {ars : List ARes} {vs : List AV}, chkRes P rs ars = true → results fr S ars = some vs →
    ∃ us, (rs.mapM (resF tmps)).run P w = .ok us w ∧ VRs μ vs us
  | [], [], vs, _, h => by
    cases h
    exact ⟨[], by simp, .nil⟩
  | .tmp t :: rs, .tmp t' :: ars, vs, hc, h => by
    simp only [chkRes, Bool.and_eq_true, beq_iff_eq] at hc
    obtain ⟨rfl, hc⟩ := hc
    simp only [results] at h
    split at h <;> (try (cases h; done))
    rename_i v vs' h1 h2
    cases h
    obtain ⟨us, k1, k2⟩ := results_list hR hf hc h2
    obtain ⟨u, g1, g2⟩ := hf.get _ _ h1
    refine ⟨u :: us, ?_, .cons g2 k2⟩
    have e1 : tmps.getD t undef = u := by simp [Array.getD_eq_getD_getElem?, g1]
    rw [List.mapM_cons]; simp only [resF, Sem.run_bind, Sem.run_pure, Result.andThen, e1, k1]
  | .cell t ty :: rs, .cell t' sz :: ars, vs, hc, h => by
    simp only [chkRes, Bool.and_eq_true, beq_iff_eq] at hc
    obtain ⟨⟨rfl, hsz⟩, hc⟩ := hc
    simp only [results] at h
    split at h <;> (try (cases h; done))
    rename_i b o h1
    split at h <;> (try (cases h; done))
    rename_i v vs' h2 h3
    cases h
    obtain ⟨us, k1, k2⟩ := results_list hR hf hc h3
    obtain ⟨u, g1, g2⟩ := hf.get _ _ h1
    cases g2
    rename_i L hL
    obtain ⟨u', l1, l2⟩ := r_loadVar (P := P) hR hsz hL h2
    refine ⟨u' :: us, ?_, .cons l2 k2⟩
    have e1 : tmps.getD t undef = .pointer (some ⟨L.blk, L.off + o, none⟩) := by simp [Array.getD_eq_getD_getElem?, g1]
    have e2 : asAddr (Value.pointer (some ⟨L.blk, L.off + o, none⟩)) = pure ⟨L.blk, L.off + o, none⟩ := rfl
    rw [List.mapM_cons]; simp only [resF, Sem.run_bind, Sem.run_pure, Result.andThen, e1, e2, l1, k1]
  | [], _ :: _, _, hc, _ => by simp [chkRes] at hc
  | _ :: _, [], _, hc, _ => by simp [chkRes] at hc
  | .tmp _ :: _, .cell _ _ :: _, _, hc, _ => by simp [chkRes] at hc
  | .cell _ _ :: _, .tmp _ :: _, _, hc, _ => by simp [chkRes] at hc

theorem results_run {μ : Mu} {S : St} {w : World} (hR : Rel μ S w) {N : Nat} {fr : Fr} {tmps : Array Value} (hf : FrR μ N fr tmps) {fd : Func} {ars : List ARes} {vs : List AV} (hc : chkRes P fd.results.toList ars = true) (h : results fr S ars = some vs) :
    ∃ u, (Go.results fd tmps).run P w = .ok u w ∧ VR μ (asOne vs) u := by
  obtain ⟨us, h1, h2⟩ := results_list hR hf hc h
  have hm : (fd.results.mapM (resF tmps)).run P w = .ok us.toArray w := by
    rw [Array.mapM_eq_mapM_toList, map_eq_pure_bind]
    simp only [Sem.run_bind, h1, Result.andThen, Sem.run_pure]
  refine ⟨if h : us.toArray.size = 1 then us.toArray[0] else .tuple us.toArray, ?_, ?_⟩
  · have e : (Go.results fd tmps).run P w = (Sem.run P (fd.results.mapM (resF tmps)) w).andThen (fun vs w => Sem.run P (pure (if h : vs.size = 1 then vs[0] else .tuple vs)) w) := by
      unfold Go.results; rw [Sem.run_bind]; rfl
    rw [e, hm]; simp
  · match vs, us, h2 with
    | [], [], _ => exact .tup .nil
    | [v], [u], .cons h _ => exact h
    | v :: v' :: vs, u :: u' :: us, h => exact .tup (by simpa using h)

theorem callS_of {AP : AProg} {ex : ACode → Fr → St → Option (AEx × Fr × St)} (hp : PrimS P gl AP.prims) (hf : FnS P gl names AP.funcs) (hex : CodeS P gl names ex) : CallS P gl (callWith AP ex) := by
  intro f vs S v S' h μ w args hg hR hv
  unfold callWith at h
  split at h
  · rename_i g hgp; exact hp f g hgp vs S v S' h μ w args hg hR hv
  · split at h <;> (try (cases h; done))
    rename_i fn hfn
    have hc := hf f fn hfn
    unfold chkFn at hc
    split at hc <;> (try (cases hc; done))
    rename_i fd hfd
    split at hc <;> (try (cases hc; done))
    rename_i c hbody
    simp only [Bool.and_eq_true, bne_iff_ne, ne_eq] at hc
    obtain ⟨⟨c1, c2⟩, c3⟩ := hc
    unfold callFn at h
    split at h
    rotate_left
    · cases h
    rename_i hlen
    have hlen := Nat.eq_of_beq_eq_true hlen
    have hsz : args.size = vs.length := by simpa using hv.length
    have hrun : (callFunc f args).run P w = .ok (.enter f args) w := by
      simp [callFunc, hfd, c1, hbody]
    unfold CallR
    rw [hrun]
    refine calls_of_wp hfd hbody ?_
    have hfr := enter_frr hv (fd.ntmps - args.size)
    rw [hsz] at hfr ⊢
    rw [hlen] at hfr ⊢
    split at h
    · cases h
    · rename_i e fr' S1 hne hrunx
      refine hex _ c fn.body c3 _ _ _ _ _ hrunx μ w _ hg hR hfr rfl _ fun a' w' hw => ?_
      obtain ⟨μ1, g1, g2, g3, g4⟩ := hw
      have done : ∀ x, results fr' S1 fn.res = some x → v = asOne x → S' = S1 → ∃ u, (Go.results fd a'.tmps).run P w' = .ok u w' ∧ ∃ v', Ending.returned u = .returned v' ∧ Back μ S w v S' v' w' := fun x hx hvx hS => by
        obtain ⟨u, k1, k2⟩ := results_run g3 g1 c2 hx
        exact ⟨u, k1, u, rfl, μ1, by rw [hvx]; exact k2, by rw [hS]; exact g3, by rw [hS]; exact g4⟩
      have fin : ∃ u, (Go.results fd a'.tmps).run P w' = .ok u w' ∧ ∃ v', Ending.returned u = .returned v' ∧ Back μ S w v S' v' w' := by
        split at h
        · rename_i v0 hv0; cases h; exact done _ hv0 rfl rfl
        · rename_i vs0 hne0 hvs0
          cases h
          refine done _ hvs0 ?_ rfl
          match vs0, hne0 with
          | [], _ => rfl
          | [v0], hh => exact absurd rfl (hh v0)
          | _ :: _ :: _, _ => rfl
        · cases h
      cases e with
      | normal => exact ⟨g2, fin⟩
      | ret => exact ⟨g2, fin⟩
      | exit id => exact (hne _ rfl).elim
    · cases h

theorem Went.trans {μ : Mu} {S S1 S2 : St} {w w1 w2 : World} {N : Nat} {fr : Fr} {a : Act} {μ1 : Mu} (h : Stp μ S w μ1 S1 w1) (k : Went μ1 S1 w1 N fr S2 a w2) : Went μ S w N fr S2 a w2 := by
  obtain ⟨μ2, k1, k2, k3, k4⟩ := k
  exact ⟨μ2, k1, k2, k3, h.trans k4⟩

/-- Loops, round by round. -/
theorem loop_rounds {AP : AProg} : ∀ n, (∀ m, m < n → CodeS P gl names (exec AP m)) → ∀ N c ac, chkCode P gl names N c ac = true → ∀ fr S e fr' S', exec AP n (.loop ac) fr S = some (e, fr', S') → ∀ μ w a, GR gl μ → Rel μ S w → FrR μ N fr a.tmps → a.defers = [] →
    ∀ Q : Exit → Act → World → Prop, (∀ a' w', Went μ S w N fr' S' a' w' → Q (exOf e) a' w') → Code.rounds P c Q n a w
  | 0, _, N, c, ac, _, fr, S, e, fr', S', h => by cases h
  | n + 1, hex, N, c, ac, hc, fr, S, e, fr', S', h => fun μ w a hg hR hf hd Q hQ => by
    have h' : execStep AP (exec AP n) (.loop ac) fr S = some (e, fr', S') := h
    simp only [execStep] at h'
    show c.wp P (Exit.then (Code.rounds P c Q n) Q) a w
    split at h'
    · rename_i fr1 S1 h1
      refine hex n (Nat.lt_succ_self n) N c ac hc _ _ _ _ _ h1 μ w a hg hR hf hd _ fun a1 w1 hw => ?_
      obtain ⟨μ1, k1, k2, k3, k4⟩ := hw
      exact loop_rounds n (fun m hm => hex m (by omega)) N c ac hc fr1 S1 e fr' S' h' μ1 w1 a1 (hg.mono k4.le) k3 k1 k2 Q fun a' w' hw' => hQ a' w' (Went.trans k4 hw')
    · rename_i hne
      refine hex n (Nat.lt_succ_self n) N c ac hc _ _ _ _ _ h' μ w a hg hR hf hd _ fun a1 w1 hw => ?_
      cases e with
      | normal => exact absurd h' (hne _ _)
      | ret => exact hQ a1 w1 hw
      | exit id => exact hQ a1 w1 hw

/-- THE MACHINE IS SOUND. -/
theorem codeS {AP : AProg} (hmx : P.follows .mixedOrders = true) (hm : MethS P names AP.methods) (hp : PrimS P gl AP.prims) (hf : FnS P gl names AP.funcs) : ∀ n, CodeS P gl names (exec AP n) := by
  intro n
  induction n using Nat.strongRecOn with
  | _ n ih =>
    cases n with
    | zero => intro N c ac _ fr S e fr' S' h; cases h
    | succ n =>
      have hn := ih n (Nat.lt_succ_self n)
      have hcall := callS_of hp hf hn
      intro N c ac hc fr S e fr' S' h μ w a hg hR hfr hd Q hQ
      have h0 := h
      have h : execStep AP (exec AP n) ac fr S = some (e, fr', S') := h
      unfold chkCode at hc
      split at hc
      · cases h; exact wp_skip (hQ _ _ ⟨μ, hfr, hd, hR, Stp.refl _ _ _⟩)
      · simp only [execStep] at h
        split at h <;> (try (cases h; done))
        rename_i fr1 S1 h1
        cases h
        exact region_text hm hcall hc hg hR hfr hd h1 hQ _
      · simp only [execStep] at h
        split at h <;> (try (cases h; done))
        rename_i fr1 S1 h1
        cases h
        exact region_draw hmx hm hcall hc hg hR hfr hd h1 hQ _
      · simp only [Bool.and_eq_true] at hc
        simp only [execStep] at h
        refine wp_seq ?_
        split at h
        · rename_i fr1 S1 h1
          refine hn N _ _ hc.1 _ _ _ _ _ h1 μ w a hg hR hfr hd _ fun a1 w1 hw => ?_
          obtain ⟨μ1, k1, k2, k3, k4⟩ := hw
          exact hn N _ _ hc.2 _ _ _ _ _ h μ1 w1 a1 (hg.mono k4.le) k3 k1 k2 Q fun a' w' hw' => hQ a' w' (Went.trans k4 hw')
        · rename_i hne
          refine hn N _ _ hc.1 _ _ _ _ _ h μ w a hg hR hfr hd _ fun a1 w1 hw => ?_
          cases e with
          | normal => exact absurd h (hne _ _)
          | ret => exact hQ a1 w1 hw
          | exit id => exact hQ a1 w1 hw
      · simp only [Bool.and_eq_true] at hc
        simp only [execStep] at h
        split at h
        · rename_i hx; exact wp_cond_true (evX_bool hc.1.1 hg hfr hx) (hn N _ _ hc.1.2 _ _ _ _ _ h μ w a hg hR hfr hd Q hQ)
        · rename_i hx; exact wp_cond_false (evX_bool hc.1.1 hg hfr hx) (hn N _ _ hc.2 _ _ _ _ _ h μ w a hg hR hfr hd Q hQ)
        · cases h
      · simp only [Bool.and_eq_true, beq_iff_eq] at hc
        obtain ⟨rfl, hc⟩ := hc
        simp only [execStep] at h
        refine wp_block ?_
        split at h
        · rename_i id' fr1 S1 h1
          refine hn N _ _ hc _ _ _ _ _ h1 μ w a hg hR hfr hd _ fun a1 w1 hw => ?_
          split at h
          · rename_i hid
            cases h
            simp only [exOf, Exit.inBlock]
            rw [if_pos (Nat.eq_of_beq_eq_true hid)]
            exact hQ a1 w1 hw
          · rename_i hid
            cases h
            simp only [exOf, Exit.inBlock]
            rw [if_neg (Nat.ne_of_beq_eq_false hid)]
            exact hQ a1 w1 hw
        · rename_i hne
          refine hn N _ _ hc _ _ _ _ _ h μ w a hg hR hfr hd _ fun a1 w1 hw => ?_
          cases e with
          | normal => exact hQ a1 w1 hw
          | ret => exact hQ a1 w1 hw
          | exit id => exact absurd h (hne _ _ _)
      · refine wp_loop_rounds (n + 1) (loop_rounds (n + 1) (fun m hm => ih m hm) N _ _ hc fr S e fr' S' h0 μ w a hg hR hfr hd Q hQ)
      · simp only [beq_iff_eq] at hc
        subst hc
        cases h
        exact wp_exit (hQ _ _ ⟨μ, hfr, hd, hR, Stp.refl _ _ _⟩)
      · cases h; exact wp_ret (hQ _ _ ⟨μ, hfr, hd, hR, Stp.refl _ _ _⟩)
      · cases hc

/-- A call. -/
theorem callA_sound {AP : AProg} (hmx : P.follows .mixedOrders = true) (hm : MethS P names AP.methods) (hp : PrimS P gl AP.prims) (hf : FnS P gl names AP.funcs) (n : Nat) : CallS P gl (callA AP n) := callS_of hp hf (codeS hmx hm hp hf n)
end Go.Ab
