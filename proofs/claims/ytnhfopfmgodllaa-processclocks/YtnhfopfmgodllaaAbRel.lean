/-
  HOW AN ABSTRACT STATE STANDS TO A WORLD: values, blocks, frames; what a step may turn.
-/
import Derived.Test.YtnhfopfmgodllaaAb
import Derived.Below
import Derived.Laws.IdiomCopy
set_option linter.unusedSectionVars false
namespace Go.Ab
open Go

/-! ### Tables -/
namespace Tr
variable {α : Type}
@[simp] theorem get_nil (n : Nat) : (Tr.nil : Tr α).get n = none := rfl
theorem get_node0 (l : Tr α) (v : Option α) (r : Tr α) : (Tr.node l v r).get 0 = v := rfl
theorem get_nodeS (l : Tr α) (v : Option α) (r : Tr α) (m : Nat) : (Tr.node l v r).get (m + 1) = if m % 2 = 0 then l.get (m / 2) else r.get (m / 2) := by
  show Nat.rec (motive := fun _ => Option α) (l.get (m / 2)) (fun _ _ => r.get (m / 2)) (m % 2) = _
  rcases Nat.mod_two_eq_zero_or_one m with h | h <;> rw [h] <;> rfl
theorem putF_nil0 (f : Nat) (o : Option α) : putF (f + 1) .nil 0 o = .node .nil o .nil := rfl
theorem putF_nilS (f : Nat) (o : Option α) (m : Nat) : putF (f + 1) .nil (m + 1) o = if m % 2 = 0 then .node (putF f .nil (m / 2) o) none .nil else .node .nil none (putF f .nil (m / 2) o) := by
  show Nat.rec (motive := fun _ => Tr α) _ _ (m % 2) = _
  rcases Nat.mod_two_eq_zero_or_one m with h | h <;> rw [h] <;> rfl
theorem putF_node0 (f : Nat) (l : Tr α) (v : Option α) (r : Tr α) (o : Option α) : putF (f + 1) (.node l v r) 0 o = .node l o r := rfl
theorem putF_nodeS (f : Nat) (l : Tr α) (v : Option α) (r : Tr α) (o : Option α) (m : Nat) : putF (f + 1) (.node l v r) (m + 1) o = if m % 2 = 0 then .node (putF f l (m / 2) o) v r else .node l v (putF f r (m / 2) o) := by
  show Nat.rec (motive := fun _ => Tr α) _ _ (m % 2) = _
  rcases Nat.mod_two_eq_zero_or_one m with h | h <;> rw [h] <;> rfl
theorem get_putF (o : Option α) : ∀ (f : Nat) (t : Tr α) (n m : Nat), n < f → (putF f t n o).get m = if m = n then o else t.get m := by
  intro f
  induction f with
  | zero => intro t n m h; omega
  | succ f ih =>
    intro t n m h
    cases t with
    | nil =>
      cases n with
      | zero =>
        rw [putF_nil0]
        cases m with
        | zero => simp [get_node0]
        | succ m => rw [get_nodeS]; simp
      | succ n =>
        rw [putF_nilS]
        have hd : n / 2 < f := by omega
        cases m with
        | zero => split <;> simp [get_node0]
        | succ m =>
          by_cases hn : n % 2 = 0
          · rw [if_pos hn, get_nodeS]
            by_cases hm : m % 2 = 0
            · rw [if_pos hm, ih _ _ _ hd]
              by_cases e : m / 2 = n / 2
              · rw [if_pos e, if_pos (by omega)]
              · rw [if_neg e, if_neg (by omega)]; simp
            · rw [if_neg hm, if_neg (by omega)]; simp
          · rw [if_neg hn, get_nodeS]
            by_cases hm : m % 2 = 0
            · rw [if_pos hm, if_neg (by omega)]; simp
            · rw [if_neg hm, ih _ _ _ hd]
              by_cases e : m / 2 = n / 2
              · rw [if_pos e, if_pos (by omega)]
              · rw [if_neg e, if_neg (by omega)]; simp
    | node l v r =>
      cases n with
      | zero =>
        rw [putF_node0]
        cases m with
        | zero => simp [get_node0]
        | succ m => rw [get_nodeS, get_nodeS]; simp
      | succ n =>
        rw [putF_nodeS]
        have hd : n / 2 < f := by omega
        cases m with
        | zero => split <;> simp [get_node0]
        | succ m =>
          by_cases hn : n % 2 = 0
          · rw [if_pos hn, get_nodeS, get_nodeS]
            by_cases hm : m % 2 = 0
            · rw [if_pos hm, if_pos hm, ih _ _ _ hd]
              by_cases e : m / 2 = n / 2
              · rw [if_pos e, if_pos (by omega)]
              · rw [if_neg e, if_neg (by omega)]
            · rw [if_neg hm, if_neg hm, if_neg (by omega)]
          · rw [if_neg hn, get_nodeS, get_nodeS]
            by_cases hm : m % 2 = 0
            · rw [if_pos hm, if_pos hm, if_neg (by omega)]
            · rw [if_neg hm, if_neg hm, ih _ _ _ hd]
              by_cases e : m / 2 = n / 2
              · rw [if_pos e, if_pos (by omega)]
              · rw [if_neg e, if_neg (by omega)]
theorem get_put (t : Tr α) (n m : Nat) (o : Option α) : (t.put n o).get m = if m = n then o else t.get m := get_putF o (n + 1) t n m (by omega)
theorem get_put_same (t : Tr α) (n : Nat) (o : Option α) : (t.put n o).get n = o := by simp [get_put]
theorem get_put_ne (t : Tr α) {n m : Nat} (o : Option α) (h : m ≠ n) : (t.put n o).get m = t.get m := by simp [get_put, h]
end Tr

/-! ### Values -/
/-- Where an abstract block lies: its block, the cell at which it begins, how many cells that block has, the cells of an element (of one that may be appended to). -/
structure Loc where
  blk : Nat
  off : Nat
  size : Nat
  es : Nat

abbrev Mu := Nat → Option Loc

/-- What the unknowns are. -/
structure Unknowns where
  is : Nat → Int
variable [Inhabited Unknowns]
/-- What unknowns come to. -/
def evT : List Tm → Int
  | [] => 0
  | (v, a, _, _) :: r => a * (default : Unknowns).is v + evT r
def okT : List Tm → Prop
  | [] => True
  | (v, _, lo, hi) :: r => lo ≤ (default : Unknowns).is v ∧ (default : Unknowns).is v ≤ hi ∧ okT r

def Mu.le (μ μ' : Mu) : Prop := ∀ b L, μ b = some L → μ' b = some L
theorem Mu.le_refl (μ : Mu) : μ.le μ := fun _ _ h => h
theorem Mu.le_trans {μ μ' μ'' : Mu} (h : μ.le μ') (k : μ'.le μ'') : μ.le μ'' := fun b L e => k b L (h b L e)

def scal : AV → Bool
  | .agg _ | .tup _ => false
  | _ => true

mutual
inductive VR (μ : Mu) : AV → Value → Prop where
  | bool (b : Bool) : VR μ (.bool b) (.bool b)
  | int (k : IntKind) (n : Int) : VR μ (.int k n) (.int k n)
  | sym {k : IntKind} {c : Int} {ts : List Tm} (h : okT ts) : VR μ (.sym k c ts) (.int k (c + evT ts))
  | str {l : List Nat} {s : ByteArray} (h : s.data.toList.map UInt8.toNat = l) : VR μ (.str l) (.string s)
  | nilp : VR μ .nilp (.pointer none)
  | ptr {b o : Nat} {L : Loc} (h : μ b = some L) : VR μ (.ptr b o) (.pointer (some ⟨L.blk, L.off + o, none⟩))
  | nils : VR μ .nils (.slice none 0 0)
  | slcK {b o len cap : Nat} {L : Loc} (h : μ b = some L) (hc : len ≤ cap) : VR μ (.slc b o len (some cap)) (.slice (some ⟨L.blk, L.off + o, none⟩) len cap)
  | slcU {b o len co cap : Nat} {L : Loc} (h : μ b = some L) (hc : len ≤ cap) (ho : len ≠ 0 → co = L.off + o) (hs : co + cap * L.es ≤ L.size) : VR μ (.slc b o len none) (.slice (some ⟨L.blk, co, none⟩) len cap)
  | nilm : VR μ .nilm (.map none)
  | map {b : Nat} {L : Loc} (h : μ b = some L) : VR μ (.map b) (.map (some L.blk))
  | fn {f : Nat} {l : List AV} {c : Array Value} (h : VRs μ l c.toList) : VR μ (.fn f l) (.func (.func f) #[] c)
  | nilFn : VR μ .nilFn .nilFunc
  | iface {t : Nat} {v : AV} {u : Value} (h : VR μ v u) : VR μ (.iface t v) (.iface t u)
  | nilIface : VR μ .nilIface .nilIface
  | agg {l : List AV} {c : Array Value} (h : VRs μ l c.toList) (hs : l.all scal = true) : VR μ (.agg l) (.agg c)
  | tup {l : List AV} {c : Array Value} (h : VRs μ l c.toList) : VR μ (.tup l) (.tuple c)
inductive VRs (μ : Mu) : List AV → List Value → Prop where
  | nil : VRs μ [] []
  | cons {v : AV} {u : Value} {l : List AV} {m : List Value} (h : VR μ v u) (t : VRs μ l m) : VRs μ (v :: l) (u :: m)
end

mutual
theorem VR.mono {μ μ' : Mu} (le : μ.le μ') : ∀ {v : AV} {u : Value}, VR μ v u → VR μ' v u
  | _, _, .bool b => .bool b
  | _, _, .int k n => .int k n
  | _, _, .sym h => .sym h
  | _, _, .str h => .str h
  | _, _, .nilp => .nilp
  | _, _, .ptr h => .ptr (le _ _ h)
  | _, _, .nils => .nils
  | _, _, .slcK h hc => .slcK (le _ _ h) hc
  | _, _, .slcU h hc ho hs => .slcU (le _ _ h) hc ho hs
  | _, _, .nilm => .nilm
  | _, _, .map h => .map (le _ _ h)
  | _, _, .fn h => .fn (VRs.mono le h)
  | _, _, .nilFn => .nilFn
  | _, _, .iface h => .iface (VR.mono le h)
  | _, _, .nilIface => .nilIface
  | _, _, .agg h hs => .agg (VRs.mono le h) hs
  | _, _, .tup h => .tup (VRs.mono le h)
theorem VRs.mono {μ μ' : Mu} (le : μ.le μ') : ∀ {l : List AV} {m : List Value}, VRs μ l m → VRs μ' l m
  | _, _, .nil => .nil
  | _, _, .cons h t => .cons (VR.mono le h) (VRs.mono le t)
end

theorem VRs.length {μ : Mu} : ∀ {l : List AV} {m : List Value}, VRs μ l m → m.length = l.length
  | _, _, .nil => rfl
  | _, _, .cons _ t => by simp [t.length]
theorem VRs.append {μ : Mu} : ∀ {l l' : List AV} {m m' : List Value}, VRs μ l m → VRs μ l' m' → VRs μ (l ++ l') (m ++ m')
  | _, _, _, _, .nil, k => k
  | _, _, _, _, .cons h t, k => .cons h (t.append k)
theorem VRs.get {μ : Mu} : ∀ {l : List AV} {m : List Value}, VRs μ l m → ∀ (i : Nat) (v : AV), l[i]? = some v → ∃ u, m[i]? = some u ∧ VR μ v u
  | _, _, .nil, i, v, h => by simp at h
  | _, _, .cons h t, 0, v, e => by simp at e; subst e; exact ⟨_, rfl, h⟩
  | _, _, .cons h t, i + 1, v, e => by simpa using t.get i v (by simpa using e)
theorem VRs.get' {μ : Mu} : ∀ {l : List AV} {m : List Value}, VRs μ l m → ∀ (i : Nat) (u : Value), m[i]? = some u → ∃ v, l[i]? = some v ∧ VR μ v u
  | _, _, .nil, i, v, h => by simp at h
  | _, _, .cons h t, 0, v, e => by simp at e; subst e; exact ⟨_, rfl, h⟩
  | _, _, .cons h t, i + 1, v, e => by simpa using t.get' i v (by simpa using e)
theorem VRs.mk {μ : Mu} : ∀ {l : List AV} {m : List Value}, l.length = m.length → (∀ (i : Nat) (v : AV) (u : Value), l[i]? = some v → m[i]? = some u → VR μ v u) → VRs μ l m
  | [], [], _, _ => .nil
  | [], _ :: _, h, _ => by simp at h
  | _ :: _, [], h, _ => by simp at h
  | v :: l, u :: m, h, k => .cons (k 0 v u rfl rfl) (VRs.mk (by simpa using h) fun i v' u' e e' => k (i + 1) v' u' (by simpa using e) (by simpa using e'))
theorem VRs.take {μ : Mu} : ∀ {l : List AV} {m : List Value}, VRs μ l m → ∀ n, VRs μ (l.take n) (m.take n)
  | _, _, .nil, n => by simp; exact .nil
  | _, _, .cons h t, 0 => .nil
  | _, _, .cons h t, n + 1 => .cons h (t.take n)
theorem VRs.drop {μ : Mu} : ∀ {l : List AV} {m : List Value}, VRs μ l m → ∀ n, VRs μ (l.drop n) (m.drop n)
  | _, _, .nil, n => by simp; exact .nil
  | _, _, .cons h t, 0 => .cons h t
  | _, _, .cons h t, n + 1 => t.drop n

theorem VR.one {μ : Mu} {v : AV} {u : Value} (h : VR μ v u) (hs : scal v = true) : u.oneCell' = true := by
  cases h <;> first | rfl | (simp [scal] at hs)
/-- The cells of a value. -/
theorem VR.cells {μ : Mu} {v : AV} {u : Value} (h : VR μ v u) : VRs μ v.cells u.cells.toList := by
  cases h with
  | agg h hs => exact h
  | bool b => exact .cons (.bool b) .nil
  | int k n => exact .cons (.int k n) .nil
  | sym h => exact .cons (.sym h) .nil
  | str h => exact .cons (.str h) .nil
  | nilp => exact .cons .nilp .nil
  | ptr h => exact .cons (.ptr h) .nil
  | nils => exact .cons .nils .nil
  | slcK h hc => exact .cons (.slcK h hc) .nil
  | slcU h hc ho hs => exact .cons (.slcU h hc ho hs) .nil
  | nilm => exact .cons .nilm .nil
  | map h => exact .cons (.map h) .nil
  | fn h => exact .cons (.fn h) .nil
  | nilFn => exact .cons .nilFn .nil
  | iface h => exact .cons (.iface h) .nil
  | nilIface => exact .cons .nilIface .nil
  | tup h => exact .cons (.tup h) .nil
theorem VR.cells_scal {μ : Mu} {v : AV} {u : Value} (h : VR μ v u) (ht : ∀ l, v ≠ .tup l) : v.cells.all scal = true := by
  cases h <;> first | (simp [AV.cells, scal]; done) | (rename_i hs; exact hs) | exact absurd rfl (ht _)

/-! ### Blocks -/
def AObj.ro : AObj → Bool
  | .cells _ r _ => r
  | _ => false

inductive EsR (μ : Mu) : List (AV × AV) → List MapEntry → Prop where
  | nil : EsR μ [] []
  | cons {k v : AV} {e : MapEntry} {es : List (AV × AV)} {fs : List MapEntry} (hk : VR μ k e.key) (hv : VR μ v e.val) (t : EsR μ es fs) : EsR μ ((k, v) :: es) (e :: fs)
theorem EsR.mono {μ μ' : Mu} (le : μ.le μ') : ∀ {es : List (AV × AV)} {fs : List MapEntry}, EsR μ es fs → EsR μ' es fs
  | _, _, .nil => .nil
  | _, _, .cons hk hv t => .cons (hk.mono le) (hv.mono le) (t.mono le)

/-- What a block of the world is for an abstract one. -/
inductive ObjR (μ : Mu) (L : Loc) : AObj → Obj → Prop where
  | cells {opn : Option Nat} {ro : Bool} {c : List AV} {C : Array Value} {E : TypeId} {fz : Nat × Nat} (hn : C.size = L.size) (hl : L.off + c.length ≤ C.size)
      (hc : VRs μ c ((C.toList.drop L.off).take c.length)) (hs : c.all scal = true) (hf : ro = false → ∀ i, i < C.size → fz.1 ≤ i → fz.2 ≤ i) (hk : opn = none → C.size = L.off + c.length) (ho : ∀ es, opn = some es → L.es = es) : ObjR μ L (.cells opn ro c) (.cells C E fz)
  | map {es : List (AV × AV)} {E : Array MapEntry} {clock : Nat} (h : EsR μ es E.toList) (h0 : L.off = 0) : ObjR μ L (.map es) (.map E clock)
  | siter {s : List Nat} {p : Nat} {S : ByteArray} (h : S.data.toList.map UInt8.toNat = s) (h0 : L.off = 0) : ObjR μ L (.siter s p) (.stringIter S p)
theorem ObjR.mono {μ μ' : Mu} (le : μ.le μ') {L : Loc} {o : AObj} {O : Obj} (h : ObjR μ L o O) : ObjR μ' L o O := by
  cases h with
  | cells hn hl hc hs hf hk ho => exact .cells hn hl (hc.mono le) hs hf hk ho
  | map h h0 => exact .map (h.mono le) h0
  | siter h h0 => exact .siter h h0

structure Rel (μ : Mu) (S : St) (w : World) : Prop where
  dom : ∀ b L, μ b = some L → b < S.next ∧ L.blk < w.heap.size
  obj : ∀ b o L, S.heap.get b = some o → μ b = some L → ∃ O, w.heap[L.blk]? = some O ∧ ObjR μ L o O
  inj : ∀ b b' o o' L L', S.heap.get b = some o → S.heap.get b' = some o' → μ b = some L → μ b' = some L' → L.blk = L'.blk → b ≠ b' → o.ro = true ∧ o'.ro = true
  fresh : ∀ b o, S.heap.get b = some o → b < S.next

/-- A block of the world that may be written: a live abstract block lies there. -/
def Held (μ : Mu) (S : St) (k : Nat) : Prop := ∃ b o L, S.heap.get b = some o ∧ o.ro = false ∧ μ b = some L ∧ L.blk = k

/-- What a step may turn. -/
structure Stp (μ : Mu) (S : St) (w : World) (μ' : Mu) (S' : St) (w' : World) : Prop where
  le : μ.le μ'
  new : ∀ b L, μ' b = some L → μ b = none → S.next ≤ b
  next : S.next ≤ S'.next
  ghost : ∀ b, μ b = none → b < S.next → S'.heap.get b = S.heap.get b
  size : w.heap.size ≤ w'.heap.size
  keep : ∀ k, k < w.heap.size → ¬ Held μ S k → w'.heap[k]? = w.heap[k]?
  held : ∀ k, Held μ' S' k → w.heap.size ≤ k ∨ Held μ S k
  os : w'.os = w.os
  tape : w'.tape = w.tape
  output : w'.output = w.output

theorem Stp.refl (μ : Mu) (S : St) (w : World) : Stp μ S w μ S w :=
  ⟨Mu.le_refl μ, fun _ _ h k => (by rw [h] at k; cases k), Nat.le_refl _, fun _ _ _ => rfl, Nat.le_refl _, fun _ _ _ => rfl, fun _ h => .inr h, rfl, rfl, rfl⟩
theorem Stp.trans {μ μ' μ'' : Mu} {S S' S'' : St} {w w' w'' : World} (h : Stp μ S w μ' S' w') (k : Stp μ' S' w' μ'' S'' w'') : Stp μ S w μ'' S'' w'' where
  le := Mu.le_trans h.le k.le
  new b L e e0 := by
    cases e1 : μ' b with
    | none => exact Nat.le_trans h.next (k.new b L e e1)
    | some L' => exact h.new b L' e1 e0
  next := Nat.le_trans h.next k.next
  ghost b e hb := by
    have h1 := h.ghost b e hb
    cases e1 : μ' b with
    | none => rw [k.ghost b e1 (Nat.lt_of_lt_of_le hb h.next), h1]
    | some L => have := h.new b L e1 e; omega
  size := Nat.le_trans h.size k.size
  keep i hi hn := by
    have hn' : ¬ Held μ' S' i := fun hh => (h.held i hh).elim (fun hge => by omega) hn
    rw [k.keep i (Nat.lt_of_lt_of_le hi h.size) hn', h.keep i hi hn]
  held i hh := by
    rcases k.held i hh with h1 | h1
    · exact .inl (Nat.le_trans h.size h1)
    · exact h.held i h1
  os := k.os.trans h.os
  tape := k.tape.trans h.tape
  output := k.output.trans h.output

/-- A draw from the tape turns nothing. -/
theorem Rel.drew {μ : Mu} {S : St} {w : World} (h : Rel μ S w) : Rel μ S w.drew := ⟨h.dom, h.obj, h.inj, h.fresh⟩
theorem Stp.drew {μ : Mu} {S : St} {w : World} : Stp μ S w μ S w.drew :=
  ⟨Mu.le_refl μ, fun _ _ h k => (by rw [h] at k; cases k), Nat.le_refl _, fun _ _ _ => rfl, Nat.le_refl _, fun _ _ _ => rfl, fun _ h => .inr h, rfl, rfl, rfl⟩

/-! ### Frames -/
structure FrR (μ : Mu) (N : Nat) (fr : Fr) (tmps : Array Value) : Prop where
  size : tmps.size = N
  get : ∀ n v, fr.get n = some v → ∃ u, tmps[n]? = some u ∧ VR μ v u
theorem FrR.mono {μ μ' : Mu} (le : μ.le μ') {N : Nat} {fr : Fr} {tmps : Array Value} (h : FrR μ N fr tmps) : FrR μ' N fr tmps :=
  ⟨h.size, fun n v e => let ⟨u, hu, hv⟩ := h.get n v e; ⟨u, hu, hv.mono le⟩⟩

end Go.Ab
