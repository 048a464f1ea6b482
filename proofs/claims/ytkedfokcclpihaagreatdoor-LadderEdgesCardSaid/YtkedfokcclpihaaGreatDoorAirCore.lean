/- AIR: an interpreter of loaded functions over an abstract heap (definitions alone; no proof here). -/
import GoSem.Core.Region
import GoSem.Core.Layout
import GoSem.Dispatch
set_option linter.unusedSectionVars false
set_option linter.unusedSimpArgs false
set_option linter.unusedVariables false
set_option linter.unnecessarySimpa false
namespace Go.Air
noncomputable section

/-- Values of the abstract machine: immutable slices are values ('isl', with a colour), mutable arrays are named by a number. -/
inductive V where
  | undef
  | bool (b : Bool)
  | int (k : IntKind) (n : Int)
  | str (s : List UInt8)
  | nilp
  | ptr (id off : Nat)
  | iptr (cells : List V)
  | nsl
  | isl (c : Bool) (sz : Nat) (es : List V)
  | msl (id off len : Nat)
  | nilmap
  | map (id : Nat)
  | nilfn
  | fn (f : Fn) (first cap : List V)
  | nili
  | iface (t : Nat) (v : V)
  | agg (cs : List V)
  | tup (vs : List V)
  deriving Inhabited

/-- A test ahead. -/
def gd {α : Type} (b : Bool) (x : Option α) : Option α :=
  match b with
  | true => x
  | false => none

/-! ### lists, by recursors (the kernel is quickest so); each is Lean's own function (AirLists) -/
def lenR {α : Type} (l : List α) : Nat := List.rec (motive := fun _ => Nat) 0 (fun _ _ ih => Nat.succ ih) l
def appR {α : Type} (l m : List α) : List α := List.rec (motive := fun _ => List α) m (fun x _ ih => x :: ih) l
def dropR {α : Type} (n : Nat) : List α → List α :=
  Nat.rec (motive := fun _ => List α → List α) (fun l => l) (fun _ ih l => List.rec (motive := fun _ => List α) [] (fun _ r _ => ih r) l) n
def takeR {α : Type} (n : Nat) : List α → List α :=
  Nat.rec (motive := fun _ => List α → List α) (fun _ => []) (fun _ ih l => List.rec (motive := fun _ => List α) [] (fun x r _ => x :: ih r) l) n
def nthR {α : Type} (n : Nat) : List α → Option α :=
  Nat.rec (motive := fun _ => List α → Option α) (fun l => List.rec (motive := fun _ => Option α) none (fun x _ _ => some x) l)
    (fun _ ih l => List.rec (motive := fun _ => Option α) none (fun _ r _ => ih r) l) n
def mapR {α β : Type} (f : α → β) (l : List α) : List β := List.rec (motive := fun _ => List β) [] (fun x _ ih => f x :: ih) l

def V.cells : V → List V
  | .agg cs => cs
  | v => [v]
/-- A value's cells, if there are so many. -/
def V.cellsN (sz : Nat) : V → Option (List V)
  | .agg cs => gd (Nat.beq (lenR cs) sz) (some cs)
  | .tup _ => none
  | v => gd (Nat.beq sz 1) (some [v])

/-- What a temporary holds: a value, a local variable's own block, an address within one. -/
inductive E where
  | v (x : V)
  | box (cs : List V)
  | lp (t off : Nat)
  deriving Inhabited

inductive Obj where
  | cells (elem esz : Nat) (cs : List V)
  | map (es : List (V × V))
  deriving Inhabited

inductive Atom where
  | t (i : Nat)
  | c (v : V)
  | bad
  deriving Inhabited

inductive Cv where
  | wrap (k : IntKind)
  | s2b (elem : Nat)
  | b2s
  | same
  deriving Inhabited

inductive AOp where
  | mov (x : Atom)
  | pick (c a b : Atom)
  | box (zero : List V)
  | halloc (elem : Nat) (zero : List V)
  | boxv (sz : Nat) (x : Atom)
  | hboxv (elem sz : Nat) (x : Atom)
  | build (zero : List V) (parts : List (Nat × Nat × Atom))
  | mkisl (sz : Nat) (agg : Bool) (zero : List V) (n : Nat) (parts : List (Nat × Atom))
  | mkmsl (elem sz : Nat) (zero : List V) (n : Nat) (parts : List (Nat × Atom))
  | load (sz : Nat) (agg : Bool) (a : Atom)
  | store (sz : Nat) (a x : Atom)
  | nilchk (x : Atom)
  | bin (op : BinOp) (x y : Atom)
  | eqx (k : Nat) (neg : Bool) (x y : Atom)
  | un (op : UnOp) (x : Atom)
  | conv (c : Cv) (x : Atom)
  | mkif (t : Nat) (x : Atom)
  | mkfn (f : Fn) (first cap : List Atom)
  | mkmap (t : Nat)
  | mksl (elem sz : Nat) (zero : List V) (l c : Atom)
  | slstr (x : Atom) (lo hi : Option Atom)
  | slsl (sz : Nat) (x : Atom) (lo hi mx : Option Atom)
  | fieldA (off : Nat) (x : Atom)
  | field (off sz : Nat) (agg : Bool) (x : Atom)
  | idxAsl (sz : Nat) (x i : Atom)
  | idxAarr (n sz : Nat) (x i : Atom)
  | idxStr (x i : Atom)
  | idxArr (n sz : Nat) (agg : Bool) (x i : Atom)
  | lookup (str : Bool) (zero : V) (x k : Atom) (ok : Bool)
  | mapset (str : Bool) (m k x : Atom)
  | tassert (t : Nat) (zero : V) (ok : Bool) (x : Atom)
  | extract (x : Atom) (i : Nat)
  | len (kd : Nat) (x : Atom)
  | append (elem sz : Nat) (s x : Atom)
  | copy (sz : Nat) (d s : Atom)
  | mm (mx : Bool) (xs : List Atom)
  | delete (str : Bool) (m k : Atom)
  | call (f : Atom) (args : List Atom)
  | invoke (r : Atom) (name : String) (args : List Atom)
  | defer (f : Atom) (args : List Atom)
  | recover
  | panic (x : Atom)
  | stuck
  deriving Inhabited

structure AOper where
  dst : Option Nat
  op : AOp
  grd : Option (Nat × Bool)
  frz : List (Option Nat × Nat × Bool)
  deriving Inhabited

/-- Of a region that draws: what reads memory in an order that is open (its place, the places whose memory it may find); two last stores in an open order;
what may be done ahead of a call that stands ahead of it in the text. -/
structure Chk where
  reads : List (Nat × List Nat)
  swp : Option (Nat × Nat)
  free : List (Nat × List Nat)
  deriving Inhabited
inductive ACode where
  | skip
  | region (ops : List AOper) (chk : Option Chk) (keep : Option (List Nat))
  | seq (a b : ACode)
  | cond (c : Atom) (a b : ACode)
  | block (id : Nat) (b : ACode)
  | loop (b : ACode)
  | exit (id : Nat)
  | scope (b : ACode)
  | ret
  | stuck
  deriving Inhabited

inductive ARes where
  | tmp (t : Nat)
  | cell (a sz : Nat) (agg : Bool)
  deriving Inhabited

structure AFunc where
  results : List ARes
  body : ACode
  frz : List (Nat × Option Nat × Nat × Bool)
  deriving Inhabited

/-! ### lists by number (the newest row counts), trees by number -/
def lget {α : Type} (l : List (Nat × α)) (i : Nat) : Option α :=
  List.rec (motive := fun _ => Option α) none (fun p _ ih => Bool.rec (motive := fun _ => Option α) ih (some p.2) (Nat.beq p.1 i)) l
inductive Tr (α : Type) where
  | nil
  | node (l : Tr α) (v : Option α) (r : Tr α)
  deriving Inhabited
def trCase {α β : Type} (t : Tr α) (x : β) (f : Tr α → Option α → Tr α → β) : β := Tr.rec (motive := fun _ => β) x (fun l v r _ _ => f l v r) t
def natCase {β : Type} (n : Nat) (x : β) (f : Nat → β) : β := Nat.rec (motive := fun _ => β) x (fun k _ => f k) n
def boolCase {β : Type} (b : Bool) (x y : β) : β := Bool.rec (motive := fun _ => β) y x b
def tget {α : Type} (t : Tr α) : Nat → Option α :=
  Tr.rec (motive := fun _ => Nat → Option α) (fun _ => none)
    (fun _ v _ ihl ihr i => natCase i v fun j => boolCase (Nat.beq (j % 2) 0) (ihl (j / 2)) (ihr (j / 2))) t
def mkPath {α : Type} (x : Option α) (n : Nat) : Nat → Tr α :=
  Nat.rec (motive := fun _ => Nat → Tr α) (fun _ => .nil)
    (fun _ ih i => natCase i (.node .nil x .nil) fun j => boolCase (Nat.beq (j % 2) 0) (.node (ih (j / 2)) none .nil) (.node .nil none (ih (j / 2)))) n
def tset {α : Type} (x : Option α) (t : Tr α) : Nat → Tr α :=
  Tr.rec (motive := fun _ => Nat → Tr α) (fun i => mkPath x (i + 1) i)
    (fun l v r ihl ihr i => natCase i (.node l x r) fun j => boolCase (Nat.beq (j % 2) 0) (.node (ihl (j / 2)) v r) (.node l v (ihr (j / 2)))) t
/-- The abstract heap: objects by number. -/
abbrev Heap := Tr Obj
def hget (h : Heap) (i : Nat) : Option Obj := tget h i
def hset (h : Heap) (i : Nat) (o : Obj) : Heap := tset (some o) h i
def hdel (h : Heap) (i : Nat) : Heap := tset none h i

structure St where
  env : List (Nat × E)
  hp : Heap
  nx : Nat
  dfs : List (V × List V)
  /-- a deferred call's frame? -/
  rc : Bool
  deriving Inhabited

/-! ### operands -/
def adOf (i : Nat) : Option E → Option E
  | some (.box _) => some (.lp i 0)
  | r => r
/-- What an operand is: a value or an address. -/
def St.ad (s : St) : Atom → Option E
  | .t i => adOf i (lget s.env i)
  | .c v => some (.v v)
  | .bad => none
def vOf : Option E → Option V
  | some (.v x) => some x
  | _ => none
def St.v (s : St) : Atom → Option V
  | .t i => vOf (lget s.env i)
  | .c v => some v
  | .bad => none
def St.put (s : St) (d : Option Nat) (e : E) : St :=
  match d with
  | some i => ⟨(i, e) :: s.env, s.hp, s.nx, s.dfs, s.rc⟩
  | none => s
def St.heap (s : St) (h : Heap) : St := ⟨s.env, h, s.nx, s.dfs, s.rc⟩
def St.new (s : St) (o : Obj) : St := ⟨s.env, hset s.hp s.nx o, s.nx + 1, s.dfs, s.rc⟩
def consO (x : Option V) (xs : Option (List V)) : Option (List V) :=
  match x with
  | some x => match xs with
    | some xs => some (x :: xs)
    | none => none
  | none => none
def St.vs (s : St) (l : List Atom) : Option (List V) := List.rec (motive := fun _ => Option (List V)) (some []) (fun a _ ih => consO (s.v a) ih) l
def natOf : Option V → Option Nat
  | some (.int _ (.ofNat n)) => gd (Nat.ble n 2147483647) (some n)
  | _ => none
/-- A natural number below 2^31. -/
def St.nat (s : St) (a : Atom) : Option Nat := natOf (s.v a)

/-! ### memory -/
def objCells : Option Obj → Option (List V)
  | some (.cells _ _ cs) => some cs
  | _ => none
def boxOf : Option E → Option (List V)
  | some (.box cs) => some cs
  | _ => none
def dropO (off : Nat) : Option (List V) → Option (List V)
  | some cs => some (dropR off cs)
  | none => none
/-- The cells that an address leads to. -/
def St.at_ (s : St) : E → Option (List V)
  | .v x => match x with
    | .iptr cs => some cs
    | .ptr id off => dropO off (objCells (hget s.hp id))
    | _ => none
  | .lp t off => dropO off (boxOf (lget s.env t))
  | .box _ => none
def rd (sz : Nat) (agg : Bool) (cs : List V) : Option V :=
  match agg with
  | true => gd (Nat.ble sz (lenR cs)) (some (.agg (takeR sz cs)))
  | false => match cs with
    | x :: _ => some x
    | [] => none
def wr (cs : List V) (off : Nat) (xs : List V) : Option (List V) :=
  gd (Nat.ble (off + lenR xs) (lenR cs)) (some (appR (takeR off cs) (appR xs (dropR (off + lenR xs) cs))))
/-- A store of a value's cells at an address. -/
def St.stp (s : St) (id off : Nat) (xs : List V) : Option Obj → Option St
  | some (.cells t z cs) => match wr cs off xs with
    | some cs' => some (s.heap (hset s.hp id (.cells t z cs')))
    | none => none
  | _ => none
def St.stl (s : St) (t off : Nat) (xs : List V) : Option (List V) → Option St
  | some cs => match wr cs off xs with
    | some cs' => some (s.put (some t) (.box cs'))
    | none => none
  | none => none
def St.store (s : St) (e : E) (xs : List V) : Option St :=
  match e with
  | .v x => match x with
    | .ptr id off => s.stp id off xs (hget s.hp id)
    | _ => none
  | .lp t off => s.stl t off xs (boxOf (lget s.env t))
  | .box _ => none
def E.shift (off : Nat) : E → Option E
  | .v x => match x with
    | .ptr id o => some (.v (.ptr id (o + off)))
    | .iptr cs => some (.v (.iptr (dropR off cs)))
    | _ => none
  | .lp t o => some (.lp t (o + off))
  | .box _ => none

/-- The wrap of a kind, with a short way where nothing wraps. -/
def wrapF (k : IntKind) (n : Int) : Int :=
  match k, n with
  | .i64, .ofNat m => match Nat.ble m 9223372036854775807 with | true => .ofNat m | false => k.wrap n
  | .i64, .negSucc m => match Nat.ble m 9223372036854775807 with | true => .negSucc m | false => k.wrap n
  | .u8, .ofNat m => match Nat.ble m 255 with | true => .ofNat m | false => .ofNat (m % 256)
  | .u16, .ofNat m => match Nat.ble m 65535 with | true => .ofNat m | false => .ofNat (m % 65536)
  | .u32, .ofNat m => match Nat.ble m 4294967295 with | true => .ofNat m | false => .ofNat (m % 4294967296)
  | .u64, .ofNat m => match Nat.ble m 18446744073709551615 with | true => .ofNat m | false => .ofNat (m % 18446744073709551616)
  | .i16, .ofNat m => match Nat.ble m 32767 with | true => .ofNat m | false => k.wrap n
  | .i32, .ofNat m => match Nat.ble m 2147483647 with | true => .ofNat m | false => k.wrap n
  | _, _ => k.wrap n
def ltI : Int → Int → Bool
  | .ofNat a, .ofNat b => Nat.blt a b
  | .ofNat _, .negSucc _ => false
  | .negSucc _, .ofNat _ => true
  | .negSucc a, .negSucc b => Nat.blt b a
def eqI : Int → Int → Bool
  | .ofNat a, .ofNat b => Nat.beq a b
  | .negSucc a, .negSucc b => Nat.beq a b
  | _, _ => false
def eqK : IntKind → IntKind → Bool
  | .i8, .i8 | .i16, .i16 | .i32, .i32 | .i64, .i64 | .u8, .u8 | .u16, .u16 | .u32, .u32 | .u64, .u64 => true
  | _, _ => false
def addI : Int → Int → Int
  | .ofNat a, .ofNat b => .ofNat (a + b)
  | a, b => a + b
def subI : Int → Int → Int
  | .ofNat a, .ofNat b => match Nat.ble b a with | true => .ofNat (a - b) | false => .negSucc (b - a - 1)
  | a, b => a - b
def mulI : Int → Int → Int
  | .ofNat a, .ofNat b => .ofNat (a * b)
  | a, b => a * b
def notB : Bool → Bool
  | true => false
  | false => true
/-- Bits: of numbers from 0 on that lie in the kind, by Nat's own. -/
def inK (k : IntKind) (n : Nat) : Bool :=
  match k with
  | .i8 => Nat.ble n 127 | .u8 => Nat.ble n 255 | .i16 => Nat.ble n 32767 | .u16 => Nat.ble n 65535 | .i32 => Nat.ble n 2147483647 | .u32 => Nat.ble n 4294967295
  | .i64 => Nat.ble n 9223372036854775807 | .u64 => Nat.ble n 18446744073709551615
def bits (k : IntKind) (f : Nat → Nat → Nat) (g : BitVec k.bits → BitVec k.bits → BitVec k.bits) : Int → Int → Int
  | .ofNat a, .ofNat b => match inK k a, inK k b with
    | true, true => .ofNat (f a b)
    | _, _ => k.wrap (g (BitVec.ofInt k.bits (.ofNat a)) (BitVec.ofInt k.bits (.ofNat b))).toNat
  | a, b => k.wrap (g (BitVec.ofInt k.bits a) (BitVec.ofInt k.bits b)).toNat

/-- Equality of closed data (numbers, truths, texts, structs of these; against nil). -/
def eqB (a : List UInt8) : List UInt8 → Bool :=
  List.rec (motive := fun _ => List UInt8 → Bool) (fun b => List.rec (motive := fun _ => Bool) true (fun _ _ _ => false) b)
    (fun x _ ih b => List.rec (motive := fun _ => Bool) false (fun y r _ => boolCase (Nat.beq x.toNat y.toNat) (ih r) false) b) a
def eqV : V → V → Option Bool
  | .int j a, .int k b => gd (eqK j k) (some (eqI a b))
  | .str a, .str b => some (eqB a b)
  | _, _ => none

def ltB : List UInt8 → List UInt8 → Bool := Op.bytesLess

def binI (op : BinOp) (k : IntKind) (a b : Int) : Option V :=
  match op with
  | .add => some (.int k (wrapF k (addI a b)))
  | .sub => some (.int k (wrapF k (subI a b)))
  | .mul => some (.int k (wrapF k (mulI a b)))
  | .quo => match eqI b 0 with | true => none | false => some (.int k (wrapF k (a.tdiv b)))
  | .rem => match eqI b 0 with | true => none | false => some (.int k (a.tmod b))
  | .and => some (.int k (bits k Nat.land (· &&& ·) a b))
  | .or => some (.int k (bits k Nat.lor (· ||| ·) a b))
  | .xor => some (.int k (bits k Nat.xor (· ^^^ ·) a b))
  | .andNot => some (.int k (k.wrap (BitVec.ofInt k.bits a &&& ~~~(BitVec.ofInt k.bits b)).toNat))
  | .eql => some (.bool (eqI a b))
  | .neq => some (.bool (notB (eqI a b)))
  | .lss => some (.bool (ltI a b))
  | .leq => some (.bool (notB (ltI b a)))
  | .gtr => some (.bool (ltI b a))
  | .geq => some (.bool (notB (ltI a b)))
  | _ => none
def shI (op : BinOp) (k : IntKind) (a b : Int) : Option V :=
  if b < 0 then none else
  match op with
  | .shl => some (.int k (k.wrap (a * 2 ^ (min b.toNat k.bits))))
  | .shr => some (.int k (a.fdiv (2 ^ (min b.toNat k.bits))))
  | _ => none
def isShift : BinOp → Bool
  | .shl | .shr => true
  | _ => false
def binS (op : BinOp) (a b : List UInt8) : Option V :=
  match op with
  | .add => gd (Nat.ble (lenR a + lenR b) 2147483647) (some (.str (appR a b)))
  | .eql => some (.bool (eqB a b))
  | .neq => some (.bool (!eqB a b))
  | .lss => some (.bool (ltB a b))
  | .leq => some (.bool (ltB a b || eqB a b))
  | .gtr => some (.bool (!(ltB a b || eqB a b)))
  | .geq => some (.bool (!ltB a b))
  | _ => none
def bin (op : BinOp) (x y : V) : Option V :=
  match x with
  | .int k a => match y with
    | .int k' b => boolCase (isShift op) (shI op k a b) (gd (eqK k k') (binI op k a b))
    | _ => none
  | .str a => match y with
    | .str b => binS op a b
    | _ => none
  | _ => none
/-- Equality at a kind: 0 truths, 1 pointers, 2 functions, 3 interfaces, 4 slices (against nil). -/
def eqBool : V → V → Option Bool
  | .bool a, .bool b => some (boolCase a b (notB b))
  | _, _ => none
def eqPtr : V → V → Option Bool
  | .nilp, .nilp => some true
  | .nilp, .ptr _ _ | .ptr _ _, .nilp => some false
  | _, _ => none
def eqFun : V → V → Option Bool
  | .nilfn, .nilfn => some true
  | .nilfn, .fn _ _ _ | .fn _ _ _, .nilfn => some false
  | _, _ => none
def eqIf : V → V → Option Bool
  | .nili, .nili => some true
  | .nili, .iface _ _ | .iface _ _, .nili => some false
  | _, _ => none
def eqSl : V → V → Option Bool
  | .nsl, .nsl => some true
  | .nsl, .msl _ _ _ | .msl _ _ _, .nsl | .nsl, .isl _ _ (_ :: _) | .isl _ _ (_ :: _), .nsl => some false
  | _, _ => none
def eqAt (k : Nat) (x y : V) : Option Bool :=
  match k with
  | 0 => eqBool x y
  | 1 => eqPtr x y
  | 2 => eqFun x y
  | 3 => eqIf x y
  | 4 => eqSl x y
  | _ => none
def negV (neg : Bool) : Option Bool → Option V
  | some b => some (.bool (boolCase neg (notB b) b))
  | none => none
def un (op : UnOp) (x : V) : Option V :=
  match op, x with
  | .neg, .int k n => some (.int k (wrapF k (subI 0 n)))
  | .not, .bool b => some (.bool (notB b))
  | .xor, .int k n => binI .xor k (if k.signed then -1 else k.max) n
  | _, _ => none

def fillV : List V → List (Nat × Nat × V) → Option (List V)
  | cs, [] => some cs
  | cs, (off, sz, v) :: r => match v.cellsN sz with
    | some xs => match wr cs off xs with
      | some cs' => fillV cs' r
      | none => none
    | none => none
def St.parts (s : St) : List (Nat × Nat × Atom) → Option (List (Nat × Nat × V))
  | [] => some []
  | (o, z, a) :: r => match s.v a with
    | some x => match s.parts r with
      | some xs => some ((o, z, x) :: xs)
      | none => none
    | none => none
def elt (sz : Nat) (agg : Bool) (cs : List V) : V :=
  match agg with
  | true => .agg (takeR sz cs)
  | false => cs.headD .undef
def chunk (sz : Nat) (agg : Bool) : Nat → List V → List V
  | 0, _ => []
  | n + 1, cs => elt sz agg cs :: chunk sz agg n (dropR sz cs)
def replicateV : Nat → List V → List V
  | 0, _ => []
  | n + 1, z => appR z (replicateV n z)
def flat : List V → List V
  | [] => []
  | e :: r => appR e.cells (flat r)
def rowOf (off n sz : Nat) : Option (List V) → Option (List V × Nat)
  | some cs => gd (Nat.ble (off + n * sz) (lenR cs)) (some (takeR (n * sz) (dropR off cs), n))
  | none => none
def byteV (c : UInt8) : V := .int .u8 c.toNat
/-- The cells of the elements of a slice (or of a string's bytes), and how many elements there are. -/
def St.row (s : St) (sz : Nat) : V → Option (List V × Nat)
  | .nsl => some ([], 0)
  | .isl _ z es => gd (Nat.beq z sz) (some (flat es, lenR es))
  | .msl id off n => rowOf off n sz (objCells (hget s.hp id))
  | .str b => gd (Nat.beq sz 1) (some (mapR byteV b, lenR b))
  | _ => none
def St.rowS (s : St) (sz : Nat) : V → Option (List V × Nat)
  | .str _ => none
  | x => s.row sz x
def toBytes : List V → Option (List UInt8)
  | [] => some []
  | .int .u8 n :: r => match toBytes r with
    | some b => some (UInt8.ofNat n.toNat :: b)
    | none => none
  | _ => none

def mapGet (k : V) : List (V × V) → Option (Option V)
  | [] => some none
  | (k', x) :: r => match eqV k k' with
    | some true => some (some x)
    | some false => mapGet k r
    | none => none
def mapPut (k x : V) : List (V × V) → Option (List (V × V))
  | [] => some [(k, x)]
  | (k', y) :: r => match eqV k k' with
    | some true => some ((k, x) :: r)
    | some false => match mapPut k x r with
      | some l => some ((k', y) :: l)
      | none => none
    | none => none
def mapDel (k : V) : List (V × V) → Option (List (V × V))
  | [] => some []
  | (k', y) :: r => match eqV k k' with
    | some true => some r
    | some false => match mapDel k r with
      | some l => some ((k', y) :: l)
      | none => none
    | none => none

/-- What is no struct and no array has one cell. -/
def oneOk (agg : Bool) (sz : Nat) : Bool :=
  match agg with
  | true => true
  | false => Nat.beq sz 1
/-- A mutable array becomes immutable. -/
def St.frz1 (s : St) (sz : Nat) (agg : Bool) (x : V) : Option (V × St) :=
  match x with
  | .nsl => some (.isl true sz [], s)
  | .isl c z es => some (.isl c z es, s)
  | .msl id off n => match objCells (hget s.hp id) with
    | some cs => gd (oneOk agg sz && Nat.ble (off + n * sz) (lenR cs)) (some (.isl true sz (chunk sz agg n (dropR off cs)), s.heap (hdel s.hp id)))
    | none => none
  | _ => none

/-! ### operations that neither call nor give up: what the temporary gets, the state behind -/
abbrev OpR := Option (E × St)
def St.val (s : St) (x : V) : OpR := some (.v x, s)
def St.opt (s : St) : Option V → OpR
  | some x => some (.v x, s)
  | none => none
def St.optE (s : St) : Option E → OpR
  | some e => some (e, s)
  | none => none
def St.mkO (s : St) (x : V) (o : Obj) : OpR := some (.v x, s.new o)

def evMov (x : Atom) (s : St) : OpR := s.optE (s.ad x)
def evPick (c a b : Atom) (s : St) : OpR :=
  match s.v c with
  | some (.bool t) => match t with
    | true => s.opt (s.v a)
    | false => s.opt (s.v b)
  | _ => none
def evBox (z : List V) (s : St) : OpR := some (.box z, s)
def evHalloc (t : Nat) (z : List V) (s : St) : OpR := s.mkO (.ptr s.nx 0) (.cells t 0 z)
def evBoxv (sz : Nat) (x : Atom) (s : St) : OpR :=
  match s.v x with
  | some x => match x.cellsN sz with
    | some cs => some (.box cs, s)
    | none => none
  | none => none
def evHboxv (t sz : Nat) (x : Atom) (s : St) : OpR :=
  match s.v x with
  | some x => match x.cellsN sz with
    | some cs => s.mkO (.ptr s.nx 0) (.cells t 0 cs)
    | none => none
  | none => none
def fillO (z : List V) : Option (List (Nat × Nat × V)) → Option (List V)
  | some ps => fillV z ps
  | none => none
def evBuild (z : List V) (ps : List (Nat × Nat × Atom)) (s : St) : OpR :=
  match fillO z (s.parts ps) with
  | some cs => s.val (.agg cs)
  | none => none
def rows (sz : Nat) (ps : List (Nat × Atom)) : List (Nat × Nat × Atom) := mapR (fun p => (p.1 * sz, sz, p.2)) ps
def evMkisl (sz : Nat) (agg : Bool) (z : List V) (n : Nat) (ps : List (Nat × Atom)) (s : St) : OpR :=
  match fillO (replicateV n z) (s.parts (rows sz ps)) with
  | some cs => gd (oneOk agg sz) (s.val (.isl true sz (chunk sz agg n cs)))
  | none => none
def evMkmsl (t sz : Nat) (z : List V) (n : Nat) (ps : List (Nat × Atom)) (s : St) : OpR :=
  match fillO (replicateV n z) (s.parts (rows sz ps)) with
  | some cs => s.mkO (.msl s.nx 0 n) (.cells t sz cs)
  | none => none
def St.atO (s : St) : Option E → Option (List V)
  | some e => s.at_ e
  | none => none
def rdO (sz : Nat) (agg : Bool) : Option (List V) → Option V
  | some cs => rd sz agg cs
  | none => none
def evLoad (sz : Nat) (agg : Bool) (a : Atom) (s : St) : OpR := s.opt (rdO sz agg (s.atO (s.ad a)))
def evStore (sz : Nat) (a x : Atom) (s : St) : OpR :=
  match s.v x with
  | some x => match x.cellsN sz with
    | some cs => match s.ad a with
      | some e => match s.store e cs with
        | some s' => some (.v (.tup []), s')
        | none => none
      | none => none
    | none => none
  | none => none
def nilOk : V → Bool
  | .ptr _ _ | .iptr _ => true
  | .fn (.func _) _ _ => true
  | _ => false
def evNilchk (a : Atom) (s : St) : OpR :=
  match s.ad a with
  | some (.lp t o) => some (.lp t o, s)
  | some (.v x) => gd (nilOk x) (s.val x)
  | _ => none
def evBin (op : BinOp) (x y : Atom) (s : St) : OpR :=
  match s.v x with
  | some x => match s.v y with
    | some y => s.opt (bin op x y)
    | none => none
  | none => none
def evEqx (k : Nat) (neg : Bool) (x y : Atom) (s : St) : OpR :=
  match s.v x with
  | some x => match s.v y with
    | some y => s.opt (negV neg (eqAt k x y))
    | none => none
  | none => none
def evUn (op : UnOp) (x : Atom) (s : St) : OpR :=
  match s.v x with
  | some x => s.opt (un op x)
  | none => none
def convWrap (k : IntKind) : V → Option V
  | .int _ n => some (.int k (wrapF k n))
  | _ => none
def bytesO : Option (List V × Nat) → Option V
  | some (cs, _) => match toBytes cs with
    | some b => some (.str b)
    | none => none
  | none => none
def convS2b (t : Nat) (s : St) : V → OpR
  | .str b => s.mkO (.msl s.nx 0 (lenR b)) (.cells t 1 (mapR byteV b))
  | _ => none
def convStr : V → Option V
  | .str b => some (.str b)
  | _ => none
def evConv (c : Cv) (x : Atom) (s : St) : OpR :=
  match s.v x with
  | some x => match c with
    | .wrap k => s.opt (convWrap k x)
    | .s2b t => convS2b t s x
    | .b2s => s.opt (bytesO (s.rowS 1 x))
    | .same => s.opt (convStr x)
  | none => none
def evMkif (t : Nat) (x : Atom) (s : St) : OpR :=
  match s.v x with
  | some x => s.val (.iface t x)
  | none => none
def evMkfn (f : Fn) (a b : List Atom) (s : St) : OpR :=
  match s.vs a with
  | some a => match s.vs b with
    | some b => s.val (.fn f a b)
    | none => none
  | none => none
def evMkmap (s : St) : OpR := s.mkO (.map s.nx) (.map [])
def evMksl (t sz : Nat) (z : List V) (l c : Atom) (s : St) : OpR :=
  match s.nat l with
  | some l => match s.nat c with
    | some c => gd (Nat.ble l c) (s.mkO (.msl s.nx 0 l) (.cells t sz (replicateV c z)))
    | none => none
  | none => none
def St.optNat (s : St) (d : Nat) : Option Atom → Option Nat
  | none => some d
  | some a => s.nat a
def cutStr (b : List UInt8) (l h : Nat) : Option V := gd (Nat.ble l h && Nat.ble h (lenR b)) (some (.str (dropR l (takeR h b))))
def evSlstr (x : Atom) (lo hi : Option Atom) (s : St) : OpR :=
  match s.v x with
  | some (.str b) => match s.optNat 0 lo with
    | some l => match s.optNat (lenR b) hi with
      | some h => s.opt (cutStr b l h)
      | none => none
    | none => none
  | _ => none
def cutNil (l h m : Nat) : Option V := gd (Nat.beq l 0 && (Nat.beq h 0 && Nat.beq m 0)) (some .nsl)
def cutIsl (c : Bool) (sz z : Nat) (es : List V) (l h m : Nat) : Option V := gd (Nat.beq z sz && (Nat.ble l h && (Nat.ble h m && Nat.ble m (lenR es)))) (some (.isl c z (dropR l (takeR h es))))
def cutMsl (id off n sz : Nat) (l h : Nat) : Option Obj → Option V
  | some (.cells _ z cs) => gd (Nat.beq z sz && (Nat.ble l h && (Nat.ble h n || (Nat.blt 0 sz && Nat.ble (off + h * sz) (lenR cs))))) (some (.msl id (off + l * sz) (h - l)))
  | _ => none
def St.three (s : St) (d : Nat) (lo hi mx : Option Atom) (f : Nat → Nat → Nat → Option V) : OpR :=
  match s.optNat 0 lo with
  | some l => match s.optNat d hi with
    | some h => match s.optNat d mx with
      | some m => s.opt (f l h m)
      | none => none
    | none => none
  | none => none
def evSlsl (sz : Nat) (x : Atom) (lo hi mx : Option Atom) (s : St) : OpR :=
  match s.v x with
  | some .nsl => s.three 0 lo hi mx cutNil
  | some (.isl c z es) => s.three (lenR es) lo hi mx (cutIsl c sz z es)
  | some (.msl id off n) => match mx with
    | none => s.three n lo hi none fun l h _ => cutMsl id off n sz l h (hget s.hp id)
    | some _ => none
  | _ => none
def evFieldA (off : Nat) (a : Atom) (s : St) : OpR :=
  match s.ad a with
  | some e => s.optE (e.shift off)
  | none => none
def fieldV (off sz : Nat) (agg : Bool) : Option V → Option V
  | some (.agg cs) => rd sz agg (dropR off cs)
  | _ => none
def evField (off sz : Nat) (agg : Bool) (x : Atom) (s : St) : OpR := s.opt (fieldV off sz agg (s.v x))
def eltAt (i : Nat) (es : List V) : Option V :=
  match nthR i es with
  | some e => some (.iptr e.cells)
  | none => none
def evIdxAsl (sz : Nat) (x i : Atom) (s : St) : OpR :=
  match s.nat i with
  | some i => match s.v x with
    | some (.isl _ z es) => gd (Nat.beq z sz) (s.opt (eltAt i es))
    | some (.msl id off n) => gd (Nat.blt i n) (s.val (.ptr id (off + i * sz)))
    | _ => none
  | none => none
def evIdxAarr (n sz : Nat) (a i : Atom) (s : St) : OpR :=
  match s.nat i with
  | some i => gd (Nat.blt i n) (match s.ad a with
    | some e => s.optE (e.shift (i * sz))
    | none => none)
  | none => none
def byteAt (b : List UInt8) (i : Nat) : Option V :=
  match nthR i b with
  | some c => some (byteV c)
  | none => none
def evIdxStr (x i : Atom) (s : St) : OpR :=
  match s.nat i with
  | some i => match s.v x with
    | some (.str b) => s.opt (byteAt b i)
    | _ => none
  | none => none
def evIdxArr (n sz : Nat) (agg : Bool) (x i : Atom) (s : St) : OpR :=
  match s.nat i with
  | some i => gd (Nat.blt i n) (s.opt (fieldV (i * sz) sz agg (s.v x)))
  | none => none
def okV (ok : Bool) (x : V) (b : Bool) : V :=
  match ok with
  | true => .tup [x, .bool b]
  | false => x
def lookV (z : V) (ok : Bool) : Option (Option V) → Option V
  | some (some y) => some (okV ok y true)
  | some none => some (okV ok z false)
  | none => none
def lookO (z k : V) (ok : Bool) : Option Obj → Option V
  | some (.map es) => lookV z ok (mapGet k es)
  | _ => none
def keyO (str : Bool) : Option V → Option V
  | some (.int k n) => match str with
    | true => none
    | false => some (.int k n)
  | some (.str b) => match str with
    | true => some (.str b)
    | false => none
  | _ => none
def evLookup (str : Bool) (z : V) (x k : Atom) (ok : Bool) (s : St) : OpR :=
  match keyO str (s.v k) with
  | some k => match s.v x with
    | some .nilmap => s.val (okV ok z false)
    | some (.map id) => s.opt (lookO z k ok (hget s.hp id))
    | _ => none
  | none => none
def St.mapTo (s : St) (id : Nat) (r : E) : Option (List (V × V)) → OpR
  | some es => some (r, s.heap (hset s.hp id (.map es)))
  | none => none
def evMapset (str : Bool) (m k x : Atom) (s : St) : OpR :=
  match s.v m with
  | some (.map id) => match keyO str (s.v k) with
    | some k => match s.v x with
      | some x => match hget s.hp id with
        | some (.map es) => s.mapTo id (.v (.tup [])) (mapPut k x es)
        | _ => none
      | none => none
    | none => none
  | _ => none
def evDelete (str : Bool) (m k : Atom) (s : St) : OpR :=
  match s.v m with
  | some (.map id) => match keyO str (s.v k) with
    | some k => match hget s.hp id with
      | some (.map es) => s.mapTo id (.v (.tup [])) (mapDel k es)
      | _ => none
    | none => none
  | _ => none
def evTassert (t : Nat) (z : V) (ok : Bool) (x : Atom) (s : St) : OpR :=
  match s.v x with
  | some (.iface u y) => match Nat.beq u t with
    | true => s.val (okV ok y true)
    | false => gd ok (s.val (.tup [z, .bool false]))
  | some .nili => gd ok (s.val (.tup [z, .bool false]))
  | _ => none
def evExtract (x : Atom) (i : Nat) (s : St) : OpR :=
  match s.v x with
  | some (.tup vs) => s.opt (nthR i vs)
  | _ => none
def lenV (n : Nat) : V := .int .i64 (.ofNat n)
def lenM : Option Obj → Option V
  | some (.map es) => some (lenV (lenR es))
  | _ => none
def evLen (kd : Nat) (x : Atom) (s : St) : OpR :=
  match s.v x with
  | some (.str b) => gd (Nat.beq kd 0) (s.val (lenV (lenR b)))
  | some .nsl => gd (Nat.beq kd 1) (s.val (lenV 0))
  | some (.isl _ _ es) => gd (Nat.beq kd 1) (s.val (lenV (lenR es)))
  | some (.msl _ _ n) => gd (Nat.beq kd 1) (s.val (lenV n))
  | some .nilmap => gd (Nat.beq kd 2) (s.val (lenV 0))
  | some (.map id) => gd (Nat.beq kd 2) (s.opt (lenM (hget s.hp id)))
  | _ => none
def St.grow (s : St) (t sz id off n k : Nat) (xs : List V) : Option Obj → OpR
  | some (.cells u z cs) => gd (Nat.beq u t && (Nat.beq z sz && (Nat.ble (n + k) 2147483647 && Nat.ble (off + n * sz) (lenR cs))))
      (some (.v (.msl s.nx 0 (n + k)), (s.heap (hdel s.hp id)).new (.cells t sz (appR (takeR (n * sz) (dropR off cs)) xs))))
  | _ => none
def appendTo (t sz : Nat) (a : V) (xs : List V) (k : Nat) (s : St) : OpR :=
  match k with
  | 0 => match a with
    | .nsl => s.val .nsl
    | .isl c z es => s.val (.isl c z es)
    | .msl id off n => s.val (.msl id off n)
    | _ => none
  | _ + 1 => match a with
    | .nsl => gd (Nat.ble k 2147483647) (s.mkO (.msl s.nx 0 k) (.cells t sz xs))
    | .msl id off n => s.grow t sz id off n k xs (hget s.hp id)
    | _ => none
def evAppend (t sz : Nat) (a x : Atom) (s : St) : OpR :=
  match s.v a with
  | some a => match s.v x with
    | some x => match s.row sz x with
      | some (xs, k) => appendTo t sz a xs k s
      | none => none
    | none => none
  | none => none
def St.copyTo (s : St) (sz id off n : Nat) (xs : List V) (k : Nat) : Option Obj → OpR
  | some (.cells t z cs) => match wr cs off (takeR ((Nat.min k n) * sz) xs) with
    | some cs' => some (.v (lenV (Nat.min k n)), s.heap (hset s.hp id (.cells t z cs')))
    | none => none
  | _ => none
def evCopy (sz : Nat) (d x : Atom) (s : St) : OpR :=
  match s.v x with
  | some x => match s.row sz x with
    | some (xs, k) => match s.v d with
      | some (.msl id off n) => s.copyTo sz id off n xs k (hget s.hp id)
      | some .nsl => s.val (lenV 0)
      | _ => none
    | none => none
  | none => none
def mmI (mx : Bool) (a b : Int) : Int :=
  match mx with
  | true => (match ltI a b with | true => b | false => a)
  | false => (match ltI b a with | true => b | false => a)
def mmAll (mx : Bool) : Int → List V → Option Int
  | a, [] => some a
  | a, .int _ b :: r => mmAll mx (mmI mx a b) r
  | _, _ => none
def mmV (mx : Bool) : Option (List V) → Option V
  | some (.int k a :: r) => match mmAll mx a r with
    | some a => some (.int k a)
    | none => none
  | _ => none
def evMm (mx : Bool) (xs : List Atom) (s : St) : OpR := s.opt (mmV mx (s.vs xs))
def evDefer (f : Atom) (args : List Atom) (s : St) : OpR :=
  match s.v f with
  | some (.fn (.func g) a b) => match s.vs args with
    | some args => some (.v (.tup []), ⟨s.env, s.hp, s.nx, (.fn (.func g) a b, args) :: s.dfs, s.rc⟩)
    | none => none
  | _ => none
/-- 'recover' where nothing gave up. -/
def evRecover (s : St) : OpR :=
  match s.rc with
  | true => s.val .nili
  | false => none

def evNone (_ : St) : OpR := none
/-- What an operation does that neither calls nor gives up. -/
def evOp (op : AOp) : St → OpR :=
  AOp.rec (motive := fun _ => St → OpR) evMov evPick evBox evHalloc evBoxv evHboxv evBuild evMkisl evMkmsl evLoad evStore evNilchk evBin evEqx evUn evConv evMkif evMkfn (fun _ => evMkmap)
    evMksl evSlstr evSlsl evFieldA evField evIdxAsl evIdxAarr evIdxStr evIdxArr evLookup evMapset evTassert evExtract evLen evAppend evCopy evMm evDelete
    (fun _ _ => evNone) (fun _ _ _ => evNone) evDefer evRecover (fun _ => evNone) evNone op

/-- What a call gives: the value, memory behind. -/
abbrev CR := V × Heap × Nat
/-- How a call is made: a function's number, its arguments, memory; a deferred call? -/
abbrev Caller := Nat → List V → Heap → Nat → Bool → Option CR

/-- Which method of a dynamic type: the function, how far into the receiver. -/
abbrev Meths := Nat → String → Option (Nat × Nat)

def frzPath : List (Option Nat × Nat × Bool) → V → St → Option (V × St)
  | [], x, s => some (x, s)
  | (none, sz, agg) :: r, x, s => match s.frz1 sz agg x with
    | some (x', s') => frzPath r x' s'
    | none => none
  | (some i, sz, agg) :: r, x, s => match x with
    | .agg cs => match nthR i cs with
      | some c => match s.frz1 sz agg c with
        | some (c', s') => frzPath r (.agg (cs.set i c')) s'
        | none => none
      | none => none
    | _ => none

def frzE (fs : List (Option Nat × Nat × Bool)) (e : E) (s : St) : Option (E × St) :=
  match fs with
  | [] => some (e, s)
  | fs => match e with
    | .v x => match frzPath fs x s with | some (x', s') => some (.v x', s') | none => none
    | _ => none

/-- A method of an interface value that holds a pointer. -/
def methT (ms : Meths) (name : String) : List V → Option (Nat × List V)
  | .iface t (.ptr id o) :: xs => match ms t name with
    | some (g, off) => some (g, .ptr id (o + off) :: xs)
    | none => none
  | _ => none
/-- Whom a call calls. -/
def targetF (ms : Meths) (args : List V) : V → Option (Nat × List V)
  | .fn (.func g) a b => some (g, appR a (appR args b))
  | .fn (.method name) a _ => methT ms name (appR a args)
  | _ => none
def tgtCall (ms : Meths) (s : St) (f : Atom) (args : List Atom) : Option (Nat × List V) :=
  match s.v f with
  | some f => match s.vs args with
    | some xs => targetF ms xs f
    | none => none
  | none => none
def tgtInvoke (ms : Meths) (s : St) (r : Atom) (name : String) (args : List Atom) : Option (Nat × List V) :=
  match s.v r with
  | some r => match s.vs args with
    | some xs => methT ms name (r :: xs)
    | none => none
  | none => none

def callR (s : St) : Option CR → OpR
  | some (v, hp, nx) => some (.v v, ⟨s.env, hp, nx, s.dfs, s.rc⟩)
  | none => none
def evCall (call : Caller) (s : St) : Option (Nat × List V) → OpR
  | some (g, xs) => callR s (call g xs s.hp s.nx false)
  | none => none
/-- A method value of an interface value that holds a pointer: its nil check. -/
def evNilM (ms : Meths) (a : Atom) (s : St) : OpR :=
  match s.v a with
  | some (.fn (.method name) [.iface t (.ptr i o)] b) => match ms t name with
    | some _ => some (.v (.fn (.method name) [.iface t (.ptr i o)] b), s)
    | none => none
  | _ => none
def orElse' (r q : OpR) : OpR :=
  match r with
  | some x => some x
  | none => q

/-- One operation, calls too. -/
def evStep (call : Caller) (ms : Meths) (op : AOp) : St → OpR :=
  AOp.rec (motive := fun _ => St → OpR) evMov evPick evBox evHalloc evBoxv evHboxv evBuild evMkisl evMkmsl evLoad evStore
    (fun a s => orElse' (evNilchk a s) (evNilM ms a s)) evBin evEqx evUn evConv evMkif evMkfn (fun _ => evMkmap)
    evMksl evSlstr evSlsl evFieldA evField evIdxAsl evIdxAarr evIdxStr evIdxArr evLookup evMapset evTassert evExtract evLen evAppend evCopy evMm evDelete
    (fun f as s => evCall call s (tgtCall ms s f as)) (fun r n as s => evCall call s (tgtInvoke ms s r n as)) evDefer evRecover (fun _ => evNone) evNone op

def isB (w : Bool) : Option E → Option Bool
  | some (.v x) => match x with
    | .bool b => some (boolCase w b (notB b))
    | .tup _ => some false
    | _ => none
  | _ => none
/-- Is an operation carried out? -/
def wanted (s : St) (g : Option (Nat × Bool)) : Option Bool :=
  Option.rec (motive := fun _ => Option Bool) (some true) (fun p => isB p.2 (lget s.env p.1)) g

/-- No address into the block of a temporary's former time is left. -/
def noLp (d : Nat) (env : List (Nat × E)) : Bool :=
  List.rec (motive := fun _ => Bool) true (fun p _ ih => E.rec (motive := fun _ => Bool) (fun _ => ih) (fun _ => ih) (fun t _ => boolCase (Nat.beq t d) false ih) p.2) env
def putB (d : Option Nat) (cs : List V) (s : St) : Option St :=
  match d with
  | some i => gd (noLp i s.env) (some ⟨(i, .box cs) :: s.env, s.hp, s.nx, s.dfs, s.rc⟩)
  | none => none
def putR (d : Option Nat) (e : E) (s : St) : Option St :=
  E.rec (motive := fun _ => Option St) (fun x => some (s.put d (.v x))) (fun cs => putB d cs s) (fun t o => some (s.put d (.lp t o))) e
def putO (d : Option Nat) (r : Option (E × St)) : Option St :=
  match r with
  | some (e, s) => putR d e s
  | none => none
def frzS (d : Option Nat) (fs : List (Option Nat × Nat × Bool)) (r : OpR) : Option St :=
  match r with
  | some (e, s) => List.rec (motive := fun _ => Option St) (putR d e s) (fun _ _ _ => putO d (frzE fs e s)) fs
  | none => none
def ifW (w : Option Bool) (x y : Option St) : Option St :=
  match w with
  | some b => boolCase b x y
  | none => none
def evOne (call : Caller) (ms : Meths) (o : AOper) (s : St) : Option St :=
  Option.rec (motive := fun _ => Option St) (frzS o.dst o.frz (evStep call ms o.op s))
    (fun p => ifW (isB p.2 (lget s.env p.1)) (frzS o.dst o.frz (evStep call ms o.op s)) (putR o.dst (.v (.tup [])) s)) o.grd

def thenS (r : Option St) (f : St → Option St) : Option St :=
  match r with
  | some s => f s
  | none => none
def evOps (call : Caller) (ms : Meths) (l : List AOper) : St → Option St :=
  List.rec (motive := fun _ => St → Option St) (fun s => some s) (fun o _ ih s => thenS (evOne call ms o s) ih) l

mutual
def beqV : V → V → Bool
  | .undef, .undef => true
  | .bool a, .bool b => a == b
  | .int j a, .int k b => j == k && a == b
  | .str a, .str b => eqB a b
  | .nilp, .nilp => true
  | .ptr a b, .ptr c d => Nat.beq a c && Nat.beq b d
  | .nsl, .nsl => true
  | .isl c y a, .isl d z b => c == d && (Nat.beq y z && beqVs a b)
  | .msl a b c, .msl d e f => Nat.beq a d && (Nat.beq b e && Nat.beq c f)
  | .nilmap, .nilmap => true
  | .map a, .map b => Nat.beq a b
  | .nilfn, .nilfn => true
  | .fn (.func f) a b, .fn (.func g) c d => Nat.beq f g && (beqVs a c && beqVs b d)
  | .nili, .nili => true
  | .iface t a, .iface u b => Nat.beq t u && beqV a b
  | .agg a, .agg b => beqVs a b
  | .tup a, .tup b => beqVs a b
  | _, _ => false
def beqVs : List V → List V → Bool
  | [], [] => true
  | a :: x, b :: y => beqV a b && beqVs x y
  | _, _ => false
end

/-! ### regions that draw: the text's order; a read whose order is open must find the same in each state of memory that it may find -/
def tmpsA : Atom → List Nat
  | .t i => [i]
  | _ => []
def tmpsO : Option Atom → List Nat
  | some x => tmpsA x
  | none => []
/-- The operands of what may read in an open order. -/
def tmpsR : AOp → List Nat
  | .load _ _ a => tmpsA a
  | .lookup _ _ x k _ => appR (tmpsA x) (tmpsA k)
  | .len _ x => tmpsA x
  | .slsl _ x lo hi mx => appR (tmpsA x) (appR (tmpsO lo) (appR (tmpsO hi) (tmpsO mx)))
  | .conv _ x => tmpsA x
  | _ => []
def tmpsG : Option (Nat × Bool) → List Nat
  | some (g, _) => [g]
  | none => []
def entryV : Option E → Option E
  | some (.box _) => none
  | r => r
def consE (i : Nat) (r : Option E) (l : List (Nat × E)) : List (Nat × E) :=
  match r with
  | some e => (i, e) :: l
  | none => l
def copyT (env m : List (Nat × E)) (l : List Nat) : List (Nat × E) := List.rec (motive := fun _ => List (Nat × E)) m (fun i _ ih => consE i (entryV (lget env i)) ih) l
/-- A read's operands, another state's memory. -/
def mixS (o : AOper) (s m : St) : St := ⟨copyT s.env m.env (appR (tmpsG o.grd) (tmpsR o.op)), m.hp, m.nx, m.dfs, m.rc⟩
def sameE (x : Option E) (y : Option E) : Bool :=
  match x with
  | some (.v x) => match y with
    | some (.v y) => beqV x y
    | _ => false
  | _ => false
def gotE (d : Nat) : Option St → Option E
  | some s => lget s.env d
  | none => none
def okOne (call : Caller) (ms : Meths) (o : AOper) (d : Nat) (s : St) (x : Option E) : Option St → Bool
  | some m => sameE x (gotE d (evOne call ms o (mixS o s m)))
  | none => false
def andB (a b : Bool) : Bool := boolCase a b false
def okAll (call : Caller) (ms : Meths) (o : AOper) (d : Nat) (s : St) (x : Option E) (sn : List St) (l : List Nat) : Bool :=
  List.rec (motive := fun _ => Bool) true (fun i _ ih => andB (okOne call ms o d s x (nthR i sn)) ih) l
def okRead (call : Caller) (ms : Meths) (ops : List AOper) (sn : List St) (j : Nat) (l : List Nat) : Bool :=
  match nthR j ops with
  | some o => match o.dst with
    | some d => match nthR j sn with
      | some s => okAll call ms o d s (gotE d (nthR (j + 1) sn)) sn l
      | none => false
    | none => false
  | none => false
def okReads (call : Caller) (ms : Meths) (ops : List AOper) (sn : List St) (l : List (Nat × List Nat)) : Bool :=
  List.rec (motive := fun _ => Bool) true (fun p _ ih => andB (okRead call ms ops sn p.1 p.2) ih) l
def consS (s : St) : Option (List St) → Option (List St)
  | some l => some (s :: l)
  | none => none
/-- The states in the text's order: ahead of each operation, and behind the last. -/
def evText (call : Caller) (ms : Meths) (l : List AOper) : St → Option (List St) :=
  List.rec (motive := fun _ => St → Option (List St)) (fun s => some [s])
    (fun o _ ih s => consS s (match evOne call ms o s with | some s' => ih s' | none => none)) l
def lastS (l : List St) (s : St) : St := List.rec (motive := fun _ => St → St) (fun s => s) (fun x _ ih _ => ih x) l s

def keepL (env : List (Nat × E)) (l : List Nat) : List (Nat × E) := List.rec (motive := fun _ => List (Nat × E)) [] (fun t _ ih => consE t (lget env t) ih) l
def keepEnv (s : St) : Option (List Nat) → St
  | none => s
  | some l => ⟨keepL s.env l, s.hp, s.nx, s.dfs, s.rc⟩
def keepO (keep : Option (List Nat)) : Option St → Option St
  | some s => some (keepEnv s keep)
  | none => none
def isBoxOp : AOp → Bool
  | .box _ => true
  | .boxv _ _ => true
  | _ => false
def notBox : Option E → Bool
  | some (.box _) => false
  | _ => true
def startOne (o : AOper) (env : List (Nat × E)) : Bool :=
  match o.dst with
  | some d => boolCase (isBoxOp o.op) (noLp d env) (notBox (lget env d))
  | none => true
/-- At the start of a region that draws: no address of a block that will be made is left, no block lies where a value will be put. -/
def startOk (ops : List AOper) (env : List (Nat × E)) : Bool := List.rec (motive := fun _ => Bool) true (fun o _ ih => andB (startOne o env) ih) ops
/-- Where a store goes. -/
def tgtS (o : AOper) (s : St) : Option Nat :=
  match o.op with
  | .store _ x _ => match s.ad x with
    | some (.v (.ptr i _)) => some i
    | _ => none
  | _ => none
def apartN (x y : Option Nat) : Bool :=
  match x with
  | some i => match y with
    | some j => notB (Nat.beq i j)
    | none => false
  | none => false
def tgtAt (ops : List AOper) (sn : List St) (j : Nat) : Option Nat :=
  match nthR j ops with
  | some o => match nthR j sn with
    | some s => tgtS o s
    | none => none
  | none => none
/-- Two stores whose order is open go to two objects. -/
def okSwp (ops : List AOper) (sn : List St) (p : Option (Nat × Nat)) : Bool :=
  match p with
  | some (a, b) => apartN (tgtAt ops sn a) (tgtAt ops sn b)
  | none => true
def evSnap (call : Caller) (ms : Meths) (ops : List AOper) (chk : Chk) (s : St) : Option St :=
  match evText call ms ops s with
  | some sn => gd (andB (okReads call ms ops sn chk.reads) (okSwp ops sn chk.swp)) (some (lastS sn s))
  | none => none
/-- Nothing is open. -/
def calmC (chk : Chk) : Bool :=
  match chk.reads with
  | [] => match chk.swp with
    | none => true
    | some _ => false
  | _ :: _ => false
def evDraw (call : Caller) (ms : Meths) (ops : List AOper) (chk : Chk) (s : St) : Option St :=
  gd (startOk ops s.env) (match calmC chk with
    | true => evOps call ms ops s
    | false => evSnap call ms ops chk s)
def evRegion (call : Caller) (ms : Meths) (ops : List AOper) (chk : Option Chk) (keep : Option (List Nat)) (s : St) : Option St :=
  keepO keep (match chk with
    | none => evOps call ms ops s
    | some chk => evDraw call ms ops chk s)

inductive Out where
  | normal
  | exit (id : Nat)
  | ret
  deriving Inhabited

abbrev CodeR := Option (Out × St)
def ofOR : Option St → CodeR
  | some s => some (.normal, s)
  | none => none
def seqR (r : CodeR) (f : St → CodeR) : CodeR :=
  match r with
  | some (o, s) => match o with
    | .normal => f s
    | o => some (o, s)
  | none => none
def condR (v : Option V) (a b : CodeR) : CodeR :=
  match v with
  | some (.bool t) => match t with
    | true => a
    | false => b
  | _ => none
def blockR (id : Nat) (r : CodeR) : CodeR :=
  match r with
  | some (o, s) => match o with
    | .exit j => match Nat.beq j id with
      | true => some (.normal, s)
      | false => some (.exit j, s)
    | o => some (o, s)
  | none => none
def loopR (f : St → CodeR) (n : Nat) : St → CodeR :=
  Nat.rec (motive := fun _ => St → CodeR) (fun _ => none) (fun _ ih s => seqR (f s) ih) n
def evCode (call : Caller) (ms : Meths) (lf : Nat) (c : ACode) : St → CodeR :=
  ACode.rec (motive := fun _ => St → CodeR) (fun s => some (.normal, s))
    (fun ops chk keep s => ofOR (evRegion call ms ops chk keep s))
    (fun _ _ iha ihb s => seqR (iha s) ihb)
    (fun c _ _ iha ihb s => condR (s.v c) (iha s) (ihb s))
    (fun id _ ih s => blockR id (ih s))
    (fun _ ih => loopR ih lf)
    (fun id s => some (.exit id, s))
    (fun _ ih => ih)
    (fun s => some (.ret, s))
    (fun _ => none) c

/-- No operation of it is 'recover'. -/
def isRec : AOp → Bool
  | .recover => true
  | _ => false
def noRecC : ACode → Bool
  | .region ops _ _ => ops.all fun o => !isRec o.op
  | .seq a b => noRecC a && noRecC b
  | .cond _ a b => noRecC a && noRecC b
  | .block _ b | .loop b | .scope b => noRecC b
  | _ => true
/-- What may call 'recover': no loop, no block, no draw. -/
def plainS : ACode → Bool
  | .skip | .ret => true
  | .region _ _ _ => true
  | .seq a b => plainS a && plainS b
  | .cond _ a b => plainS a && plainS b
  | c => noRecC c

/-- The deferred calls. -/
def evDefers (call : Caller) : List (V × List V) → Heap → Nat → Option (Heap × Nat)
  | [], hp, nx => some (hp, nx)
  | (.fn (.func g) a b, xs) :: r, hp, nx => match call g (appR a (appR xs b)) hp nx true with
    | some (_, hp', nx') => evDefers call r hp' nx'
    | none => none
  | _ :: _, _, _ => none

def evRes (s : St) : List ARes → Option (List V)
  | [] => some []
  | .tmp t :: r => match s.v (.t t) with
    | some x => match evRes s r with
      | some xs => some (x :: xs)
      | none => none
    | none => none
  | .cell a sz agg :: r => match rdO sz agg (s.atO (s.ad (.t a))) with
    | some x => match evRes s r with
      | some xs => some (x :: xs)
      | none => none
    | none => none

def frzRes : List (Nat × Option Nat × Nat × Bool) → List V → St → Option (List V × St)
  | [], xs, s => some (xs, s)
  | (j, p) :: r, xs, s => match nthR j xs with
    | some x => match frzPath [p] x s with
      | some (x', s') => frzRes r (xs.set j x') s'
      | none => none
    | none => none

def one (vs : List V) : V :=
  match vs with
  | [x] => x
  | vs => .tup vs

def args0 (l : List V) : Nat → List (Nat × E) :=
  List.rec (motive := fun _ => Nat → List (Nat × E)) (fun _ => []) (fun x _ ih i => (i, .v x) :: ih (i + 1)) l

def fin2 : Option (List V × St) → Option CR
  | some (vs, s) => some (one vs, s.hp, s.nx)
  | none => none
def fin1 (frz : List (Nat × Option Nat × Nat × Bool)) (s : St) : Option (List V) → Option CR
  | some vs => fin2 (frzRes frz vs s)
  | none => none
def finD (f : AFunc) (s : St) : Option (Heap × Nat) → Option CR
  | some (hp, nx) => fin1 f.frz ⟨s.env, hp, nx, [], s.rc⟩ (evRes ⟨s.env, hp, nx, [], s.rc⟩ f.results)
  | none => none
/-- The function's end: the deferred calls, the results. -/
def fin (call : Caller) (f : AFunc) (s : St) : Option CR :=
  match s.dfs with
  | [] => fin1 f.frz s (evRes s f.results)
  | ds => match s.rc with
    | true => none
    | false => finD f s (evDefers call ds s.hp s.nx)
def endR (call : Caller) (f : AFunc) : CodeR → Option CR
  | some (o, s) => match o with
    | .exit _ => none
    | _ => fin call f s
  | none => none
def evBody (call : Caller) (ms : Meths) (lf : Nat) (f : AFunc) (xs : List V) (hp : Heap) (nx : Nat) (rc : Bool) : Option CR :=
  gd (match rc with | true => plainS f.body | false => true) (endR call f (evCode call ms lf f.body ⟨args0 xs 0, hp, nx, [], rc⟩))

abbrev AProg := Nat → Option AFunc

def evFn (P : AProg) (ms : Meths) (prim : Caller) (lf n : Nat) : Caller :=
  Nat.rec (motive := fun _ => Caller) (fun _ _ _ _ _ => none)
    (fun _ ih f xs hp nx p => match P f with
      | some fn => evBody ih ms lf fn xs hp nx p
      | none => prim f xs hp nx p) n

end
end Go.Air
