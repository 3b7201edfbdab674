/-
  THE ABSTRACT MACHINE: a deterministic reading of the loaded program's code, over a heap of abstract blocks.
-/
import GoSem.Step
noncomputable section
namespace Go.Ab

/-! ### Tables by number -/
inductive Tr (α : Type) : Type where
  | nil
  | node (l : Tr α) (v : Option α) (r : Tr α)
  deriving Inhabited

namespace Tr
variable {α : Type}
@[reducible] def getR (t : Tr α) : Nat → Option α :=
  Tr.rec (motive := fun _ => Nat → Option α) (fun _ => none)
    (fun _ v _ gl gr n => Nat.rec (motive := fun _ => Option α) v (fun m _ => Nat.rec (motive := fun _ => Option α) (gl (m / 2)) (fun _ _ => gr (m / 2)) (m % 2)) n) t
def get (t : Tr α) (n : Nat) : Option α := getR t n
def putF (f : Nat) : Tr α → Nat → Option α → Tr α :=
  Nat.rec (motive := fun _ => Tr α → Nat → Option α → Tr α) (fun t _ _ => t)
    (fun _ ih t n o => Tr.casesOn (motive := fun _ => Tr α) t
      (Nat.rec (motive := fun _ => Tr α) (.node .nil o .nil) (fun m _ => Nat.rec (motive := fun _ => Tr α) (.node (ih .nil (m / 2) o) none .nil) (fun _ _ => .node .nil none (ih .nil (m / 2) o)) (m % 2)) n)
      (fun l v r => Nat.rec (motive := fun _ => Tr α) (.node l o r) (fun m _ => Nat.rec (motive := fun _ => Tr α) (.node (ih l (m / 2) o) v r) (fun _ _ => .node l v (ih r (m / 2) o)) (m % 2)) n)) f
def put (t : Tr α) (n : Nat) (o : Option α) : Tr α := putF (n + 1) t n o
end Tr

/-! ### Values, blocks, states -/
inductive AV : Type where
  | bool (b : Bool)
  | int (k : IntKind) (n : Int)
  /-- A number and unknowns: of each its name, its coefficient, between what it lies. -/
  | sym (k : IntKind) (c : Int) (ts : List (Nat × Int × Int × Int))
  | str (s : List Nat)
  | nilp
  | ptr (b o : Nat)
  | nils
  | slc (b o len : Nat) (cap : Option Nat)
  | nilm
  | map (b : Nat)
  | fn (f : Nat) (cap : List AV)
  | nilFn
  | iface (t : Nat) (v : AV)
  | nilIface
  | agg (l : List AV)
  | tup (l : List AV)
  deriving Inhabited

/-- Is it no tuple? -/
def flat : AV → Bool
  | .tup _ => false
  | _ => true

def AV.cells : AV → List AV
  | .agg l => l
  | v => [v]

mutual
def AV.same : AV → AV → Bool
  | .bool a, .bool b => a == b
  | .int j a, .int k b => j == k && a == b
  | .sym j a s, .sym k b t => j == k && a == b && s == t
  | .str a, .str b => a == b
  | .nilp, .nilp | .nils, .nils | .nilm, .nilm | .nilFn, .nilFn | .nilIface, .nilIface => true
  | .ptr a b, .ptr c d => a == c && b == d
  | .slc a b c d, .slc a' b' c' d' => a == a' && b == b' && c == c' && d == d'
  | .map a, .map b => a == b
  | .fn f a, .fn g b => f == g && AV.sames a b
  | .iface t v, .iface u w => t == u && AV.same v w
  | .agg a, .agg b => AV.sames a b
  | .tup a, .tup b => AV.sames a b
  | _, _ => false
def AV.sames : List AV → List AV → Bool
  | [], [] => true
  | a :: l, b :: m => AV.same a b && AV.sames l m
  | _, _ => false
end

inductive AObj : Type where
  /-- 'opn': none: all its cells are known; some: it may have more cells behind those, in elements of so many. 'ro': it is not written. -/
  | cells (opn : Option Nat) (ro : Bool) (c : List AV)
  | map (es : List (AV × AV))
  | siter (s : List Nat) (pos : Nat)
  deriving Inhabited

structure St where
  next : Nat
  heap : Tr AObj

/-! ### Numbers with unknowns -/
abbrev Tm := Nat × Int × Int × Int
def insT (v : Nat) (a lo hi : Int) : List Tm → List Tm
  | [] => [(v, a, lo, hi)]
  | (w, b, lo', hi') :: r => if v = w then (if a + b = 0 then r else (v, a + b, lo, hi) :: r) else if v < w then (v, a, lo, hi) :: (w, b, lo', hi') :: r else (w, b, lo', hi') :: insT v a lo hi r
def addT : List Tm → List Tm → List Tm
  | [], t => t
  | (v, a, lo, hi) :: r, t => insT v a lo hi (addT r t)
def mulT (m : Int) : List Tm → List Tm
  | [] => []
  | (v, a, lo, hi) :: r => (v, m * a, lo, hi) :: mulT m r
def loT : List Tm → Int
  | [] => 0
  | (_, a, lo, hi) :: r => (if 0 ≤ a then a * lo else a * hi) + loT r
def hiT : List Tm → Int
  | [] => 0
  | (_, a, lo, hi) :: r => (if 0 ≤ a then a * hi else a * lo) + hiT r
/-- The unknowns whose coefficients a number divides (divided by it), and the others. -/
def divT (m : Int) : List Tm → List Tm × List Tm
  | [] => ([], [])
  | (v, a, lo, hi) :: r => match divT m r with
    | (p, q) => if a.tmod m = 0 then ((v, a.tdiv m, lo, hi) :: p, q) else (p, (v, a, lo, hi) :: q)
def mkS (k : IntKind) (c : Int) : List Tm → AV
  | [] => .int k c
  | t :: r => .sym k c (t :: r)
def symOf : AV → Option (IntKind × Int × List Tm)
  | .int k n => some (k, n, [])
  | .sym k c ts => some (k, c, ts)
  | _ => none
def negS (c : Int) (ts : List Tm) : Option Bool := if c + hiT ts < 0 then some true else if 0 ≤ c + loT ts then some false else none
def zeroS (c : Int) (ts : List Tm) : Option Bool := if c + hiT ts < 0 then some false else if 0 < c + loT ts then some false else match ts with
  | [] => some (c == 0)
  | _ :: _ => none

/-! ### Instructions -/
inductive X : Type where
  | t (n : Nat)
  | c (v : AV)
  deriving Inhabited

inductive OpA : Type where
  | mov (x : X)
  | load (sz : Option Nat) (x : X)
  | store (sz : Nat) (x v : X)
  | fieldA (off : Nat) (x : X)
  | idxS (es : Nat) (x i : X)
  | nilchk (x : X)
  | ibin (op : BinOp) (x y : X)
  deriving Inhabited

inductive OpB : Type where
  | pick (c a b : X)
  | extract (x : X) (i : Nat)
  | lenS (x : X)
  | box (x : X)
  | build (cells : List AV) (parts : List (Nat × Nat × X))
  | bslice (len : Nat) (cells : List AV) (parts : List (Nat × Nat × X))
  | append (es bytes : Nat) (x y : X)
  | eq (neg : Bool) (k : Nat) (x y : X)
  deriving Inhabited

inductive OpC : Type where
  | un (op : UnOp) (x : X)
  | convInt (k : IntKind) (x : X)
  | sbin (op : BinOp) (x y : X)
  | alloc (cells : List AV)
  | fieldV (off : Nat) (sz : Option Nat) (x : X)
  | idxStr (x i : X)
  | lenStr (x : X)
  | mkSlice (es bytes : Nat) (zero : List AV) (l c : X)
  | slc (es : Nat) (x : X) (lo hi mx : Option X)
  deriving Inhabited

inductive OpD : Type where
  | idxA (len es : Nat) (x i : X)
  | idxV (len es : Nat) (sz : Option Nat) (x i : X)
  | convStr (x : X)
  | s2b (x : X)
  | b2s (x : X)
  | i2s (x : X)
  | mkIface (t : Nat) (x : X)
  | mkFn (f : Nat) (cap : List X)
  | mkMap
  deriving Inhabited

inductive OpE : Type where
  | slcA (len es : Nat) (x : X) (lo hi : Option X)
  | slcStr (x : X) (lo hi : Option X)
  | lookup (kd : Nat) (zero : AV) (m k : X) (ok : Bool)
  | mapUpd (kd : Nat) (m k v : X)
  | range (x : X)
  | next (x : X)
  | lenM (x : X)
  | lenC (n : Nat)
  deriving Inhabited

inductive OpF : Type where
  | eqS (neg : Bool) (ks : List Nat) (x y : X)
  | copy (es : Nat) (x y : X)
  | clear (es : Nat) (zero : List AV) (x : X)
  | mins (xs : List X)
  | maxs (xs : List X)
  | recheck (d : Nat) (sz : Option Nat) (x : X)
  | bad (why : String)
  deriving Inhabited

inductive AOp : Type where
  | a (o : OpA)
  | b (o : OpB)
  | c (o : OpC)
  | d (o : OpD)
  | e (o : OpE)
  | f (o : OpF)
  | callF (f : Nat) (args : List X)
  | callV (f : X) (args : List X)
  | invoke (r : X) (m : Nat) (args : List X)
  deriving Inhabited

structure AI where
  dst : Option Nat
  g : Option (Nat × Bool)
  op : AOp
  deriving Inhabited

inductive ACode : Type where
  | skip
  | ops (ord : List (Option Nat)) (l : List AI)
  | seq (a b : ACode)
  | cond (x : X) (a b : ACode)
  | block (id : Nat) (c : ACode)
  | loop (c : ACode)
  | exit (id : Nat)
  | ret
  | bad (why : String)
  deriving Inhabited

inductive ARes where
  | tmp (t : Nat)
  | cell (t : Nat) (sz : Option Nat)
  deriving Inhabited

structure AFn where
  nargs : Nat
  ntmps : Nat
  res : List ARes
  body : ACode
  deriving Inhabited

structure AProg where
  funcs : Tr AFn
  methods : List (Nat × Nat × Nat)
  prims : Tr (List AV → St → Option (AV × St))

abbrev Fr := Tr AV

def evX (fr : Fr) : X → Option AV
  | .t n => fr.get n
  | .c v => some v
def evXs (fr : Fr) : List X → Option (List AV)
  | [] => some []
  | x :: l => match evX fr x, evXs fr l with
    | some v, some vs => some (v :: vs)
    | _, _ => none
def evParts (fr : Fr) : List (Nat × Nat × X) → Option (List (Nat × Nat × AV))
  | [] => some []
  | (o, s, x) :: l => match evX fr x, evParts fr l with
    | some v, some vs => some ((o, s, v) :: vs)
    | _, _ => none

/-- Cells laid over cells from a place on; none: they reach beyond the end. -/
def splice : List AV → Nat → List AV → Option (List AV)
  | c, 0, [] => some c
  | x :: c, n + 1, l => match splice c n l with
    | some c' => some (x :: c')
    | none => none
  | _ :: c, 0, y :: l => match splice c 0 l with
    | some c' => some (y :: c')
    | none => none
  | [], _, _ => none

def fill : List AV → List (Nat × Nat × AV) → Option (List AV)
  | c, [] => some c
  | c, (o, s, v) :: r => if v.cells.length = s ∧ flat v = true then match splice c o v.cells with
    | some c' => fill c' r
    | none => none
    else none

/-- So many cells from a place on. -/
def slice? : List AV → Nat → Nat → Option (List AV)
  | c, 0, n => if n ≤ c.length then some (c.take n) else none
  | _ :: c, o + 1, n => slice? c o n
  | [], _ + 1, _ => none

def part (c : List AV) (o : Nat) : Option Nat → Option AV
  | none => c[o]?
  | some n => match slice? c o n with
    | some l => some (.agg l)
    | none => none

def new (S : St) (o : AObj) : St := ⟨S.next + 1, S.heap.put S.next (some o)⟩

def cellsOf (S : St) (b : Nat) : Option (List AV) :=
  match S.heap.get b with
  | some (.cells _ _ c) => some c
  | _ => none

def loadA (S : St) (b o : Nat) (sz : Option Nat) : Option AV :=
  match cellsOf S b with
  | some c => part c o sz
  | none => none

def storeA (S : St) (b o : Nat) (l : List AV) : Option St :=
  match S.heap.get b with
  | some (.cells op false c) => match splice c o l with
    | some c' => some ⟨S.next, S.heap.put b (some (.cells op false c'))⟩
    | none => none
  | _ => none

/-- Does a number lie in its kind? (quick for the kernel) -/
def inK : IntKind → Int → Bool
  | .i64, .ofNat n => Nat.ble n 9223372036854775807
  | .i64, .negSucc n => Nat.ble n 9223372036854775807
  | .u8, .ofNat n => Nat.ble n 255
  | .i32, .ofNat n => Nat.ble n 2147483647
  | .i32, .negSucc n => Nat.ble n 2147483647
  | .u64, .ofNat n => Nat.ble n 18446744073709551615
  | .u32, .ofNat n => Nat.ble n 4294967295
  | _, _ => false
def wr (k : IntKind) (n : Int) : Int := cond (inK k n) n (k.wrap n)

def intBin (op : BinOp) (k : IntKind) (a b : Int) : Option AV :=
  match op with
  | .add => some (.int k (wr k (a + b)))
  | .sub => some (.int k (wr k (a - b)))
  | .mul => some (.int k (wr k (a * b)))
  | .quo => if b = 0 then none else some (.int k (wr k (a.tdiv b)))
  | .rem => if b = 0 then none else some (.int k (a.tmod b))
  | .eql => some (.bool (a == b))
  | .neq => some (.bool (a != b))
  | .lss => some (.bool (a < b))
  | .leq => some (.bool (a ≤ b))
  | .gtr => some (.bool (a > b))
  | .geq => some (.bool (a ≥ b))
  | .and => some (.int k (k.wrap (BitVec.ofInt k.bits a &&& BitVec.ofInt k.bits b).toNat))
  | .or => some (.int k (k.wrap (BitVec.ofInt k.bits a ||| BitVec.ofInt k.bits b).toNat))
  | .xor => some (.int k (k.wrap (BitVec.ofInt k.bits a ^^^ BitVec.ofInt k.bits b).toNat))
  | .andNot => some (.int k (k.wrap (BitVec.ofInt k.bits a &&& ~~~ BitVec.ofInt k.bits b).toNat))
  | _ => none

def fitS (k : IntKind) (c : Int) (ts : List Tm) : Option AV := match inK k (c + loT ts) && inK k (c + hiT ts) with
  | true => some (mkS k c ts)
  | false => none
def symBin (op : BinOp) (k : IntKind) (c : Int) (ts : List Tm) (d : Int) (us : List Tm) : Option AV :=
  match op with
  | .add => fitS k (c + d) (addT ts us)
  | .sub => fitS k (c - d) (addT ts (mulT (-1) us))
  | .mul => match us with
    | [] => fitS k (c * d) (mulT d ts)
    | _ :: _ => none
  | .lss => match negS (c - d) (addT ts (mulT (-1) us)) with
    | some b => some (.bool b)
    | none => none
  | .gtr => match negS (d - c) (addT us (mulT (-1) ts)) with
    | some b => some (.bool b)
    | none => none
  | .leq => match negS (d - c) (addT us (mulT (-1) ts)) with
    | some b => some (.bool !b)
    | none => none
  | .geq => match negS (c - d) (addT ts (mulT (-1) us)) with
    | some b => some (.bool !b)
    | none => none
  | .eql => match zeroS (c - d) (addT ts (mulT (-1) us)) with
    | some b => some (.bool b)
    | none => none
  | .neq => match zeroS (c - d) (addT ts (mulT (-1) us)) with
    | some b => some (.bool !b)
    | none => none
  | _ => none
def shiftBin (op : BinOp) (k : IntKind) (a b : Int) : Option AV :=
  if b < 0 then none else
  match op with
  | .shl => some (.int k (k.wrap (a * 2 ^ (min b.toNat k.bits))))
  | .shr => some (.int k (a.fdiv (2 ^ (min b.toNat k.bits))))
  | _ => none

def ltBytes : List Nat → List Nat → Bool
  | _, [] => false
  | [], _ :: _ => true
  | a :: x, b :: y => decide (a < b) || (a == b && ltBytes x y)

def strBin (op : BinOp) (a b : List Nat) : Option AV :=
  match op with
  | .add => if (a.length + b.length : Nat) ≤ 9223372036854775807 then some (.str (a ++ b)) else none
  | .eql => some (.bool (a == b))
  | .neq => some (.bool !(a == b))
  | .lss => some (.bool (ltBytes a b))
  | .leq => some (.bool (ltBytes a b || a == b))
  | .gtr => some (.bool !(ltBytes a b || a == b))
  | .geq => some (.bool !(ltBytes a b))
  | _ => none

/-- Are two values one, as far as can be told? By the kind of their type: 0 bool, 1 whole number, 2 string, 3 pointer, 4 interface, 5 slice, 6 function, 7 map. -/
def eqA : Nat → AV → AV → Option Bool
  | 0, .bool a, .bool b => some (a == b)
  | 1, .int j a, .int k b => if j = k then some (a == b) else none
  | 2, .str a, .str b => some (a == b)
  | 3, .nilp, .nilp => some true
  | 3, .nilp, .ptr _ _ => some false
  | 3, .ptr _ _, .nilp => some false
  | 3, .ptr a o, .ptr b p => if a = b then some (o == p) else none
  | 4, .nilIface, .nilIface => some true
  | 4, .nilIface, .iface _ _ => some false
  | 4, .iface _ _, .nilIface => some false
  | 5, .nils, .nils => some true
  | 5, .nils, .slc _ _ _ _ => some false
  | 5, .slc _ _ _ _, .nils => some false
  | 6, .nilFn, .nilFn => some true
  | 6, .nilFn, .fn _ _ => some false
  | 6, .fn _ _, .nilFn => some false
  | 7, .nilm, .nilm => some true
  | 7, .nilm, .map _ => some false
  | 7, .map _, .nilm => some false
  | 1, u, v => match symOf u, symOf v with
    | some (j, c, ts), some (k, d, us) => if j = k then zeroS (c - d) (addT ts (mulT (-1) us)) else none
    | _, _ => none
  | _, _, _ => none

def eqPlain : List Nat → List AV → List AV → Option Bool
  | [], [], [] => some true
  | k :: ks, a :: l, b :: m => if k ≤ 2 then match eqA k a b, eqPlain ks l m with
      | some r, some q => some (r && q)
      | _, _ => none
    else none
  | _, _, _ => none

def findK (kd : Nat) (k : AV) : List (AV × AV) → Option (Option AV)
  | [] => some none
  | (k', v) :: es => match eqA kd k k' with
    | some true => some (some v)
    | some false => findK kd k es
    | none => none

def updK (kd : Nat) (k v : AV) : List (AV × AV) → Option (List (AV × AV))
  | [] => some [(k, v)]
  | (k', w) :: es => match eqA kd k k' with
    | some true => some ((k, v) :: es)
    | some false => match updK kd k v es with
      | some es' => some ((k', w) :: es')
      | none => none
    | none => none

def strB (s : List Nat) : ByteArray := ⟨(s.map UInt8.ofNat).toArray⟩

def decodeAt (s : List Nat) (i : Nat) : Option (Nat × Nat) :=
  match s[i]? with
  | none => none
  | some b => if b < 128 then some (b, 1) else some (Utf8.decode (strB s) i)

def asI : AV → Option Int
  | .int _ n => some n
  | _ => none

/-- A bound of a slice expression: from 0 to a number. -/
def bound (most : Nat) : Option AV → Nat → Option Nat
  | none, d => some d
  | some (.int _ n), _ => if 0 ≤ n ∧ n ≤ most then some n.toNat else none
  | some _, _ => none

def evO (fr : Fr) : Option X → Option (Option AV)
  | none => some none
  | some x => match evX fr x with
    | some v => some (some v)
    | none => none

/-- All cells of a slice. -/
def sliceCells (S : St) (es : Nat) : AV → Option (List AV)
  | .nils => some []
  | .slc _ _ 0 _ => some []
  | .slc b o len _ => match cellsOf S b with
    | some c => slice? c o (len * es)
    | none => none
  | .str s => if es = 1 then some (s.map fun (b : Nat) => AV.int .u8 (b : Int)) else none
  | _ => none

/-- The length of a slice. -/
def lenSl : AV → Option Nat
  | .nils => some 0
  | .slc _ _ len _ => some len
  | _ => none

def lenOf : AV → Option Nat
  | .nils => some 0
  | .slc _ _ len _ => some len
  | .str s => some s.length
  | _ => none

/-- What is appended to: a new block, in elements of 'es' cells (the old one, where it might have been written in place, is no longer). -/
def appendA (S : St) (es bytes : Nat) (x y : AV) : Option (AV × St) :=
  match lenSl x, lenOf y, sliceCells S es x, sliceCells S es y with
  | some n, some m, some c, some d =>
    if m = 0 then some (x, S)
    else if (2 * (n + m) + 1024) * bytes ≤ 2 ^ 48 ∧ n + m < 2 ^ 62 then
      match x with
      | .slc _ _ _ (some cap) =>
        if n + m ≤ cap then
          match x with
          | .slc b o len (some cap) => match storeA S b (o + len * es) d with
            | some S' => some (.slc b o (n + m) (some cap), S')
            | none => none
          | _ => none
        else some (.slc S.next 0 (n + m) none, new S (.cells (some es) false (c ++ d)))
      | .slc b _ _ none => match S.heap.get b with
        | some (.cells (some es') false _) => if es' = es then some (.slc S.next 0 (n + m) none, ⟨S.next + 1, (S.heap.put b none).put S.next (some (.cells (some es) false (c ++ d)))⟩) else none
        | _ => none
      | .nils => some (.slc S.next 0 (n + m) none, new S (.cells (some es) false (c ++ d)))
      | _ => none
    else none
  | _, _, _, _ => none

def nth (l : List AV) (n : Nat) : Option AV := l[n]?

def minF (mx : Bool) (x y : Int) : Int := if mx then (if y > x then y else x) else (if y < x then y else x)
def minS (mx : Bool) (c : Int) (ts : List Tm) (d : Int) (us : List Tm) : Option Bool := if mx then negS (c - d) (addT ts (mulT (-1) us)) else negS (d - c) (addT us (mulT (-1) ts))
def minI (mx : Bool) : AV → List AV → Option AV
  | v, [] => some v
  | .int k a, .int j b :: l => if k = j then minI mx (.int k (minF mx a b)) l else none
  | u, v :: l => match symOf u, symOf v with
    | some (k, c, ts), some (j, d, us) => if k = j then match minS mx c ts d us with
      | some true => minI mx v l
      | some false => minI mx u l
      | none => none
      else none
    | _, _ => none

def repl (zero : List AV) : Nat → List AV
  | 0 => []
  | n + 1 => zero ++ repl zero n

def bytesOf : List AV → Option (List Nat)
  | [] => some []
  | .int .u8 n :: l => match bytesOf l with
    | some r => if 0 ≤ n ∧ n < 256 then some (n.toNat :: r) else none
    | none => none
  | _ => none

def utf8 (n : Int) : List Nat := (Utf8.encode n).data.toList.map UInt8.toNat

def do_mov (x : X) (fr : Fr) (S : St) : Option (AV × St) := match evX fr x with
    | some v => some (v, S)
    | none => none

def do_pick (c : X) (a : X) (b : X) (fr : Fr) (S : St) : Option (AV × St) := match evX fr c with
    | some (.bool true) => match evX fr a with
      | some v => some (v, S)
      | none => none
    | some (.bool false) => match evX fr b with
      | some v => some (v, S)
      | none => none
    | _ => none

def do_alloc (cells : List AV) (_ : Fr) (S : St) : Option (AV × St) := some (.ptr S.next 0, new S (.cells none false cells))

def do_box (x : X) (fr : Fr) (S : St) : Option (AV × St) := match evX fr x with
    | some v => if flat v = true then some (.ptr S.next 0, new S (.cells none false v.cells)) else none
    | none => none

def do_build (cells : List AV) (parts : List (Nat × Nat × X)) (fr : Fr) (S : St) : Option (AV × St) := match evParts fr parts with
    | some ps => match fill cells ps with
      | some c => some (.agg c, S)
      | none => none
    | none => none

def do_bslice (len : Nat) (cells : List AV) (parts : List (Nat × Nat × X)) (fr : Fr) (S : St) : Option (AV × St) := match evParts fr parts with
    | some ps => match fill cells ps with
      | some c => some (.slc S.next 0 len (some len), new S (.cells none false c))
      | none => none
    | none => none

def do_load (sz : Option Nat) (x : X) (fr : Fr) (S : St) : Option (AV × St) := match evX fr x with
    | some (.ptr b o) => match loadA S b o sz with
      | some v => some (v, S)
      | none => none
    | _ => none

def do_store (sz : Nat) (x : X) (y : X) (fr : Fr) (S : St) : Option (AV × St) := match evX fr x, evX fr y with
    | some (.ptr b o), some v => if v.cells.length = sz ∧ flat v = true then match storeA S b o v.cells with
      | some S' => some (.tup [], S')
      | none => none
      else none
    | _, _ => none

def do_nilchk (x : X) (fr : Fr) (S : St) : Option (AV × St) := match evX fr x with
    | some (.ptr b o) => some (.ptr b o, S)
    | some (.fn f c) => some (.fn f c, S)
    | some (.iface t v) => some (.iface t v, S)
    | _ => none

def do_fieldA (off : Nat) (x : X) (fr : Fr) (S : St) : Option (AV × St) := match evX fr x with
    | some (.ptr b o) => some (.ptr b (o + off), S)
    | _ => none

def do_fieldV (off : Nat) (sz : Option Nat) (x : X) (fr : Fr) (S : St) : Option (AV × St) := match evX fr x with
    | some (.agg c) => match part c off sz with
      | some v => some (v, S)
      | none => none
    | _ => none

def do_idxS (es : Nat) (x : X) (i : X) (fr : Fr) (S : St) : Option (AV × St) := match evX fr x, evX fr i with
    | some (.slc b o len _), some (.int _ n) => if 0 ≤ n ∧ n < len then some (.ptr b (o + n.toNat * es), S) else none
    | _, _ => none

def do_idxA (len : Nat) (es : Nat) (x : X) (i : X) (fr : Fr) (S : St) : Option (AV × St) := match evX fr x, evX fr i with
    | some (.ptr b o), some (.int _ n) => if 0 ≤ n ∧ n < len then some (.ptr b (o + n.toNat * es), S) else none
    | _, _ => none

def do_idxV (len : Nat) (es : Nat) (sz : Option Nat) (x : X) (i : X) (fr : Fr) (S : St) : Option (AV × St) := match evX fr x, evX fr i with
    | some (.agg c), some (.int _ n) => if 0 ≤ n ∧ n < len then match part c (n.toNat * es) sz with
      | some v => some (v, S)
      | none => none
      else none
    | _, _ => none

def do_idxStr (x : X) (i : X) (fr : Fr) (S : St) : Option (AV × St) := match evX fr x, evX fr i with
    | some (.str s), some (.int _ n) => if 0 ≤ n then match s[n.toNat]? with
      | some b => some (.int .u8 b, S)
      | none => none
      else none
    | _, _ => none

def do_ibin (op : BinOp) (x : X) (y : X) (fr : Fr) (S : St) : Option (AV × St) := match evX fr x, evX fr y with
    | some (.int k a), some (.int j b) => match op with
      | .shl | .shr => match shiftBin op k a b with
        | some v => some (v, S)
        | none => none
      | _ => if k = j then match intBin op k a b with
        | some v => some (v, S)
        | none => none
        else none
    | some u, some v => match symOf u, symOf v with
      | some (k, c, ts), some (j, d, us) => if k = j then match symBin op k c ts d us with
        | some r => some (r, S)
        | none => none
        else none
      | _, _ => none
    | _, _ => none

def do_sbin (op : BinOp) (x : X) (y : X) (fr : Fr) (S : St) : Option (AV × St) := match evX fr x, evX fr y with
    | some (.str a), some (.str b) => match strBin op a b with
      | some v => some (v, S)
      | none => none
    | _, _ => none

def do_eq (neg : Bool) (k : Nat) (x y : X) (fr : Fr) (S : St) : Option (AV × St) := match evX fr x, evX fr y with
    | some a, some b => match eqA k a b with
      | some r => some (.bool (r != neg), S)
      | none => none
    | _, _ => none

def do_eqS (neg : Bool) (ks : List Nat) (x y : X) (fr : Fr) (S : St) : Option (AV × St) := match evX fr x, evX fr y with
    | some (.agg a), some (.agg b) => match eqPlain ks a b with
      | some r => some (.bool (r != neg), S)
      | none => none
    | _, _ => none

def do_un (op : UnOp) (x : X) (fr : Fr) (S : St) : Option (AV × St) := match op, evX fr x with
    | .not, some (.bool b) => some (.bool !b, S)
    | .neg, some (.int k n) => some (.int k (k.wrap (0 - n)), S)
    | .xor, some (.int k n) => match intBin .xor k (if k.signed then -1 else k.max) n with
      | some v => some (v, S)
      | none => none
    | _, _ => none

def do_convInt (k : IntKind) (x : X) (fr : Fr) (S : St) : Option (AV × St) := match evX fr x with
    | some (.int _ n) => some (.int k (wr k n), S)
    | some (.sym _ c ts) => match fitS k c ts with
      | some r => some (r, S)
      | none => none
    | _ => none

def do_convStr (x : X) (fr : Fr) (S : St) : Option (AV × St) := match evX fr x with
    | some (.str s) => some (.str s, S)
    | _ => none

def do_s2b (x : X) (fr : Fr) (S : St) : Option (AV × St) := match evX fr x with
    | some (.str s) => some (.slc S.next 0 s.length none, new S (.cells (some 1) false (s.map fun (b : Nat) => AV.int .u8 (b : Int))))
    | _ => none

def do_b2s (x : X) (fr : Fr) (S : St) : Option (AV × St) := match evX fr x with
    | some v => match v, sliceCells S 1 v with
      | .str _, _ => none
      | _, some c => match bytesOf c with
        | some s => some (.str s, S)
        | none => none
      | _, _ => none
    | none => none

def do_i2s (x : X) (fr : Fr) (S : St) : Option (AV × St) := match evX fr x with
    | some (.int _ n) => some (.str (utf8 n), S)
    | _ => none

def do_mkIface (t : Nat) (x : X) (fr : Fr) (S : St) : Option (AV × St) := match evX fr x with
    | some v => some (.iface t v, S)
    | none => none

def do_mkFn (f : Nat) (cap : List X) (fr : Fr) (S : St) : Option (AV × St) := match evXs fr cap with
    | some vs => some (.fn f vs, S)
    | none => none

def do_mkMap  (_ : Fr) (S : St) : Option (AV × St) := some (.map S.next, new S (.map []))

def do_mkSlice (es : Nat) (bytes : Nat) (zero : List AV) (l : X) (c : X) (fr : Fr) (S : St) : Option (AV × St) := match evX fr l, evX fr c with
    | some (.int _ n), some (.int _ m) => if 0 ≤ n ∧ n ≤ m ∧ m * bytes ≤ 2 ^ 47 ∧ m < 2 ^ 62 ∧ zero.length = es then
        some (.slc S.next 0 n.toNat (some m.toNat), new S (.cells none false (repl zero m.toNat))) else none
    | _, _ => none

def do_slc (es : Nat) (x : X) (lo : Option X) (hi : Option X) (mx : Option X) (fr : Fr) (S : St) : Option (AV × St) := match evX fr x, evO fr lo, evO fr hi, evO fr mx with
    | some .nils, some l, some h, some m => match bound 0 m 0 with
      | some _ => match bound 0 h 0 with
        | some _ => match bound 0 l 0 with
          | some _ => some (.nils, S)
          | none => none
        | none => none
      | none => none
    | some (.slc b o len cap), some l, some h, some m =>
      match cap with
      | some c => match bound c m c with
        | some m' => match bound m' h len with
          | some h' => match bound h' l 0 with
            | some l' => some (.slc b (if m' = l' then o else o + l' * es) (h' - l') (some (m' - l')), S)
            | none => none
          | none => none
        | none => none
      | none => match S.heap.get b with
        | some (.cells (some es') _ _) => if es' = es then match m with
            | none => match bound len h len with
              | some h' => match bound h' l 0 with
                | some l' => some (.slc b (o + l' * es) (h' - l') none, S)
                | none => none
              | none => none
            | some m => match bound len (some m) len with
              | some m' => match bound m' h m' with
                | some h' => match bound h' l 0 with
                  | some l' => some (.slc b (if m' = l' then o else o + l' * es) (h' - l') (if len = 0 then none else some (m' - l')), S)
                  | none => none
                | none => none
              | none => none
          else none
        | _ => none
    | _, _, _, _ => none

def do_slcA (n : Nat) (es : Nat) (x : X) (lo : Option X) (hi : Option X) (fr : Fr) (S : St) : Option (AV × St) := match evX fr x, evO fr lo, evO fr hi with
    | some (.ptr b o), some l, some h => match bound n h n with
      | some h' => match bound h' l 0 with
        | some l' => some (.slc b (if n = l' then o else o + l' * es) (h' - l') (some (n - l')), S)
        | none => none
      | none => none
    | _, _, _ => none

def do_slcStr (x : X) (lo : Option X) (hi : Option X) (fr : Fr) (S : St) : Option (AV × St) := match evX fr x, evO fr lo, evO fr hi with
    | some (.str s), some l, some h => match bound s.length h s.length with
      | some h' => match bound h' l 0 with
        | some l' => some (.str ((s.take h').drop l'), S)
        | none => none
      | none => none
    | _, _, _ => none

def do_lookup (kd : Nat) (zero : AV) (m : X) (k : X) (ok : Bool) (fr : Fr) (S : St) : Option (AV × St) := match evX fr m, evX fr k with
    | some .nilm, some _ => some (if ok then .tup [zero, .bool false] else zero, S)
    | some (.map b), some k => match S.heap.get b with
      | some (.map es) => match findK kd k es with
        | some (some v) => some (if ok then .tup [v, .bool true] else v, S)
        | some none => some (if ok then .tup [zero, .bool false] else zero, S)
        | none => none
      | _ => none
    | _, _ => none

def do_mapUpd (kd : Nat) (m : X) (k : X) (v : X) (fr : Fr) (S : St) : Option (AV × St) := match evX fr m, evX fr k, evX fr v with
    | some (.map b), some k, some v => match S.heap.get b with
      | some (.map es) => match updK kd k v es with
        | some es' => some (.tup [], ⟨S.next, S.heap.put b (some (.map es'))⟩)
        | none => none
      | _ => none
    | _, _, _ => none

def do_range (x : X) (fr : Fr) (S : St) : Option (AV × St) := match evX fr x with
    | some (.str s) => some (.ptr S.next 0, new S (.siter s 0))
    | _ => none

def do_next (x : X) (fr : Fr) (S : St) : Option (AV × St) := match evX fr x with
    | some (.ptr b 0) => match S.heap.get b with
      | some (.siter s p) => match decodeAt s p with
        | some (c, n) => some (.tup [.bool true, .int .i64 p, .int .i32 c], ⟨S.next, S.heap.put b (some (.siter s (p + n)))⟩)
        | none => some (.tup [.bool false], S)
      | _ => none
    | _ => none

def do_extract (x : X) (i : Nat) (fr : Fr) (S : St) : Option (AV × St) := match evX fr x with
    | some (.tup l) => match nth l i with
      | some v => some (v, S)
      | none => none
    | _ => none

def do_lenS (x : X) (fr : Fr) (S : St) : Option (AV × St) := match evX fr x with
    | some .nils => some (.int .i64 0, S)
    | some (.slc _ _ len _) => some (.int .i64 len, S)
    | _ => none

def do_lenStr (x : X) (fr : Fr) (S : St) : Option (AV × St) := match evX fr x with
    | some (.str s) => some (.int .i64 s.length, S)
    | _ => none

def do_lenM (x : X) (fr : Fr) (S : St) : Option (AV × St) := match evX fr x with
    | some .nilm => some (.int .i64 0, S)
    | some (.map b) => match S.heap.get b with
      | some (.map es) => some (.int .i64 es.length, S)
      | _ => none
    | _ => none

def do_lenC (n : Nat) (_ : Fr) (S : St) : Option (AV × St) := some (.int .i64 n, S)

def do_append (es : Nat) (bytes : Nat) (x : X) (y : X) (fr : Fr) (S : St) : Option (AV × St) := match evX fr x, evX fr y with
    | some u, some v => appendA S es bytes u v
    | _, _ => none

def do_copy (es : Nat) (x : X) (y : X) (fr : Fr) (S : St) : Option (AV × St) := match evX fr x, evX fr y with
    | some u, some v => match lenOf u, lenOf v, sliceCells S es v with
      | some n, some m, some c => match u with
        | .slc b o _ _ => if min m n = 0 then some (.int .i64 0, S) else match storeA S b o (c.take (min m n * es)) with
          | some S' => some (.int .i64 (min m n : Nat), S')
          | none => none
        | .nils => some (.int .i64 0, S)
        | _ => none
      | _, _, _ => none
    | _, _ => none

def do_clear (es : Nat) (zero : List AV) (x : X) (fr : Fr) (S : St) : Option (AV × St) := match evX fr x with
    | some .nils => some (.tup [], S)
    | some (.slc _ _ 0 _) => some (.tup [], S)
    | some (.slc b o len _) => if zero.length = es then match storeA S b o (repl zero len) with
      | some S' => some (.tup [], S')
      | none => none
      else none
    | _ => none

def do_mins (xs : List X) (fr : Fr) (S : St) : Option (AV × St) := match evXs fr xs with
    | some (v :: l) => match minI false v l with
      | some r => some (r, S)
      | none => none
    | _ => none

def do_maxs (xs : List X) (fr : Fr) (S : St) : Option (AV × St) := match evXs fr xs with
    | some (v :: l) => match minI true v l with
      | some r => some (r, S)
      | none => none
    | _ => none

def do_recheck (d : Nat) (sz : Option Nat) (x : X) (fr : Fr) (S : St) : Option (AV × St) := match fr.get d, evX fr x with
    | some v, some (.ptr b o) => match loadA S b o sz with
      | some u => if AV.same u v then some (v, S) else none
      | none => none
    | _, _ => none

def stepA (op : OpA) (fr : Fr) (S : St) : Option (AV × St) :=
  match op with
  | .mov x => do_mov x fr S
  | .load sz x => do_load sz x fr S
  | .store sz x y => do_store sz x y fr S
  | .fieldA off x => do_fieldA off x fr S
  | .idxS es x i => do_idxS es x i fr S
  | .nilchk x => do_nilchk x fr S
  | .ibin op x y => do_ibin op x y fr S

def stepB (op : OpB) (fr : Fr) (S : St) : Option (AV × St) :=
  match op with
  | .pick c a b => do_pick c a b fr S
  | .extract x i => do_extract x i fr S
  | .lenS x => do_lenS x fr S
  | .box x => do_box x fr S
  | .build cells parts => do_build cells parts fr S
  | .bslice len cells parts => do_bslice len cells parts fr S
  | .append es bytes x y => do_append es bytes x y fr S
  | .eq neg k x y => do_eq neg k x y fr S

def stepC (op : OpC) (fr : Fr) (S : St) : Option (AV × St) :=
  match op with
  | .un op x => do_un op x fr S
  | .convInt k x => do_convInt k x fr S
  | .sbin op x y => do_sbin op x y fr S
  | .alloc cells => do_alloc cells fr S
  | .fieldV off sz x => do_fieldV off sz x fr S
  | .idxStr x i => do_idxStr x i fr S
  | .lenStr x => do_lenStr x fr S
  | .mkSlice es bytes zero l c => do_mkSlice es bytes zero l c fr S
  | .slc es x lo hi mx => do_slc es x lo hi mx fr S

def stepD (op : OpD) (fr : Fr) (S : St) : Option (AV × St) :=
  match op with
  | .idxA len es x i => do_idxA len es x i fr S
  | .idxV len es sz x i => do_idxV len es sz x i fr S
  | .convStr x => do_convStr x fr S
  | .s2b x => do_s2b x fr S
  | .b2s x => do_b2s x fr S
  | .i2s x => do_i2s x fr S
  | .mkIface t x => do_mkIface t x fr S
  | .mkFn f cap => do_mkFn f cap fr S
  | .mkMap  => do_mkMap  fr S

def stepE (op : OpE) (fr : Fr) (S : St) : Option (AV × St) :=
  match op with
  | .slcA n es x lo hi => do_slcA n es x lo hi fr S
  | .slcStr x lo hi => do_slcStr x lo hi fr S
  | .lookup kd zero m k ok => do_lookup kd zero m k ok fr S
  | .mapUpd kd m k v => do_mapUpd kd m k v fr S
  | .range x => do_range x fr S
  | .next x => do_next x fr S
  | .lenM x => do_lenM x fr S
  | .lenC n => do_lenC n fr S

def stepF (op : OpF) (fr : Fr) (S : St) : Option (AV × St) :=
  match op with
  | .eqS neg ks x y => do_eqS neg ks x y fr S
  | .copy es x y => do_copy es x y fr S
  | .clear es zero x => do_clear es zero x fr S
  | .mins xs => do_mins xs fr S
  | .maxs xs => do_maxs xs fr S
  | .recheck d sz x => do_recheck d sz x fr S
  | .bad _ => none

def methodOf : List (Nat × Nat × Nat) → Nat → Nat → Option Nat
  | [], _, _ => none
  | (t, m, f) :: l, u, n => if t = u ∧ m = n then some f else methodOf l u n

def putD (fr : Fr) (d : Option Nat) (o : Option AV) : Fr :=
  match d with
  | some t => fr.put t o
  | none => fr

def runI (methods : List (Nat × Nat × Nat)) (call : Nat → List AV → St → Option (AV × St)) (op : AOp) (fr : Fr) (S : St) : Option (AV × St) :=
  match op with
  | .a o => stepA o fr S
  | .b o => stepB o fr S
  | .c o => stepC o fr S
  | .d o => stepD o fr S
  | .e o => stepE o fr S
  | .f o => stepF o fr S
  | .callF f args => match evXs fr args with
    | some vs => call f vs S
    | none => none
  | .callV f args => match evX fr f, evXs fr args with
    | some (.fn f cap), some vs => call f (vs ++ cap) S
    | _, _ => none
  | .invoke r m args => match evX fr r, evXs fr args with
    | some (.iface t (.ptr b o)), some vs => match methodOf methods t m with
      | some f => call f (.ptr b o :: vs) S
      | none => none
    | _, _ => none

def runG (methods : List (Nat × Nat × Nat)) (call : Nat → List AV → St → Option (AV × St)) (i : AI) (next : Fr → St → Option (Fr × St)) (fr : Fr) (S : St) : Option (Fr × St) :=
  match runI methods call i.op fr S with
  | some (v, S') => next (putD fr i.dst (some v)) S'
  | none => none
def runOne (methods : List (Nat × Nat × Nat)) (call : Nat → List AV → St → Option (AV × St)) (i : AI) (next : Fr → St → Option (Fr × St)) (fr : Fr) (S : St) : Option (Fr × St) :=
    match i.g with
    | none => runG methods call i next fr S
    | some (t, want) => match fr.get t with
      | some (.bool b) => match b == want with
        | true => runG methods call i next fr S
        | false => next (putD fr i.dst (some (.tup []))) S
      | some (.tup []) => next (putD fr i.dst (some (.tup []))) S
      | _ => none
def runIs (methods : List (Nat × Nat × Nat)) (call : Nat → List AV → St → Option (AV × St)) (l : List AI) : Fr → St → Option (Fr × St) :=
  List.rec (motive := fun _ => Fr → St → Option (Fr × St)) (fun fr S => some (fr, S)) (fun i _ ih fr S => runOne methods call i ih fr S) l

inductive AEx where
  | normal | exit (id : Nat) | ret

def results (fr : Fr) (S : St) : List ARes → Option (List AV)
  | [] => some []
  | .tmp t :: l => match fr.get t, results fr S l with
    | some v, some vs => some (v :: vs)
    | _, _ => none
  | .cell t sz :: l => match fr.get t with
    | some (.ptr b o) => match loadA S b o sz, results fr S l with
      | some v, some vs => some (v :: vs)
      | _, _ => none
    | _ => none

def enter : Nat → List AV → Fr
  | _, [] => .nil
  | n, v :: l => (enter (n + 1) l).put n (some v)

def callFn (ex : ACode → Fr → St → Option (AEx × Fr × St)) (fn : AFn) (args : List AV) (S : St) : Option (AV × St) :=
  match Nat.beq args.length fn.nargs with
  | true => match ex fn.body (enter 0 args) S with
    | some (.exit _, _, _) => none
    | some (_, fr', S') => match results fr' S' fn.res with
      | some [v] => some (v, S')
      | some vs => some (.tup vs, S')
      | none => none
    | none => none
  | false => none
def callWith (P : AProg) (ex : ACode → Fr → St → Option (AEx × Fr × St)) (f : Nat) (args : List AV) (S : St) : Option (AV × St) :=
  match P.prims.get f with
  | some g => g args S
  | none => match P.funcs.get f with
    | some fn => callFn ex fn args S
    | none => none
def execStep (P : AProg) (ex : ACode → Fr → St → Option (AEx × Fr × St)) (c : ACode) (fr : Fr) (S : St) : Option (AEx × Fr × St) :=
  match c with
  | .skip => some (.normal, fr, S)
  | .ops _ l => match runIs P.methods (callWith P ex) l fr S with
    | some (fr', S') => some (.normal, fr', S')
    | none => none
  | .seq a b => match ex a fr S with
    | some (.normal, fr', S') => ex b fr' S'
    | r => r
  | .cond x a b => match evX fr x with
    | some (.bool true) => ex a fr S
    | some (.bool false) => ex b fr S
    | _ => none
  | .block id c => match ex c fr S with
    | some (.exit id', fr', S') => match Nat.beq id' id with
      | true => some (.normal, fr', S')
      | false => some (.exit id', fr', S')
    | r => r
  | .loop c => match ex c fr S with
    | some (.normal, fr', S') => ex (.loop c) fr' S'
    | r => r
  | .exit id => some (.exit id, fr, S)
  | .ret => some (.ret, fr, S)
  | .bad _ => none
/-- The machine: 'fuel' bounds the depth of calls and rounds. -/
def exec (P : AProg) (fuel : Nat) : ACode → Fr → St → Option (AEx × Fr × St) :=
  Nat.rec (motive := fun _ => ACode → Fr → St → Option (AEx × Fr × St)) (fun _ _ _ => none) (fun _ ih => execStep P ih) fuel

def callA (P : AProg) (n f : Nat) (args : List AV) (S : St) : Option (AV × St) := callWith P (exec P n) f args S

end Go.Ab
